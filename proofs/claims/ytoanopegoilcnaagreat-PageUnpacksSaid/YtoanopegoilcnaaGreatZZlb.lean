/- Walks over firkinref05: Unpack's loop over the words of a page whose head is good. -/
import Derived.Test.YtoanopegoilcnaaGreatJx
import Derived.Test.YtoanopegoilcnaaGreatZZb
import Derived.Test.YtoanopegoilcnaaGreatJw
import Derived.Deep.RegionHeld3
import Derived.Deep.DrawnRows
import Derived.Outline
set_option linter.unusedVariables false
namespace Go.Proofs.YtoanopegoilcnaaGreat
open Go.RowKit Go.Mem Go.Pg
attribute [local go_sem ↓] Go.wp_at_zero Go.wp_at_succ

theorem below_set1 {w : World} {b j : Nat} {v : Value} : w.grownBy (w.setCell ⟨b, j, none⟩ v) (some b) := grown_set w b j v

set_option maxRecDepth 1000000 in
set_option maxHeartbeats 12800000 in
theorem good_loop (S N T mw wd g o L cap fb ob hb sg sc k0 M : Nat) (ga : Option Addr) (gl gc : Nat) (m7 m8 m9 m10 z0 z1 z2 z3 z4 e0 e1 e2 e3 e4 e5 e6 e7 : Value) (l : List Nat) (h : Head) (w w5 : World) (Q : Exit → Act → World → Prop) (c0 c3 c4 c5 c7 c8 c9 c11 c12 c13 c14 c15 c16 c17 c18 c21 c22 c23 c25 c26 c27 c28 c29 c30 c31 c32 c33 c34 c35 c36 c37 c38 c39 c40 c41 c42 c43 c44 c45 c46 c47 c48 c49 c50 c51 c52 c53 c54 c55 c56 c57 c58 c59 c60 c61 c62 c63 c64 c65 c66 c67 c68 c69 c70 c71 c72 c73 c74 c75 c76 c77 c78 c79 c80 c81 c82 c83 c84 c85 c86 c87 c88 c89 c90 c91 c92 c93 c94 c95 c96 c97 c98 c99 c100 c101 c102 c103 c104 c105 c106 c107 c108 c109 c110 c111 c112 c113 c114 c115 c116 c117 c118 c119 c120 c121 c122 c123 c124 c125 c126 c127 c128 c129 c130 c131 c132 c133 c134 c135 c136 c137 c138 c139 c140 c141 c142 c143 c144 c145 c146 c147 c148 c149 c150 c151 c152 c153 c154 c155 c156 c157 c158 c159 c160 c161 c162 c163 c164 c165 c166 c167 c168 c169 c170 c171 c172 c173 c174 c175 c176 c177 c178 c179 c180 c181 c182 c183 c184 c185 c186 c187 c188 c189 c190 c191 c192 c193 c194 c195 c196 c197 c198 c199 c200 c201 c202 c203 c204 c205 c206 c207 c208 c209 c210 c211 c212 c213 c214 c215 c216 c217 c218 c219 c220 c221 c222 c223 c224 c225 c226 c227 c228 c229 c230 c231 c232 c233 c234 c235 c236 c237 c238 c239 c240 c241 c242 c243 c244 c245 c246 c247 c248 c249 c250 c251 c252 c253 c254 c255 c256 c257 c258 c259 c260 c261 c262 c263 c264 c265 c266 c267 c268 c269 c270 c271 c272 c273 c274 : Value)
    (hpw : Par (S + 4) T mw) (hS1 : 1 ≤ S) (hS2 : S ≤ 256) (hN8 : N ≤ 8) (hT8 : T ≤ 8) (hwd : wdB S T mw = wd) (hNL : N * wd ≤ L) (hL25 : L ≤ 2500) (hca : L ≤ cap) (hcb : cap ≤ maxLen)
    (hrw : RC w (.agg #[.int .i64 mw, .int .i64 ((S : Int) + 4), .int .i64 T, .slice ga gl gc]) (S + 4) T mw) (hv : Rd .u8 w (.slice (some ⟨g, o, none⟩) L cap) l) (hll : l.length = L) (hx : ∀ y ∈ l, y < 256)
    (hbw : Below w.heap.size w w5) (hobw : w.heap.size ≤ ob) (hfo : fb ≠ ob) (hho : hb ≠ ob) (hoM : ob < M) (hk0 : k0 ≤ 8)
    (hfx : w5.heap[fb]? = some (.cells #[.int .i64 S, .int .i64 N, .int .i64 T, .int .i64 mw, .int .i64 ((S : Int) + 4), .int .i64 T, .slice ga gl gc, m7, m8, m9, m10] 35 (0, 0)))
    (hhb : w5.heap[hb]? = some (.cells #[z0, z1, z2, z3, z4, .slice (some ⟨sg, 0, none⟩) N sc] 27 (0, 0)))
    (hsl : SlM M w5 (.slice (some ⟨sg, 0, none⟩) N sc) h.slots) (hlen : h.slots.length = N) (hok : ∀ s ∈ h.slots, s.Ok ∧ s.Fit)
    (hob : w5.heap[ob]? = some (.cells #[e0, e1, e2, e3, e4, e5, e6, e7, .slice none 0 0, .slice none 0 0, .int .i64 (k0 : Nat)] 50 (0, 0)))
    (hexit : ∀ (a : Act) (zw zs : Value) (wr : World), (∃ u24 u25 u26 u27 u28 u196 u197 u198 u199 u200 u201 u202 u203 u204 u205 u206 u207 u208 u209 u210 u211 u212 u213 u214 u215 u216 u217 u218 u219 u220 u221 u222 u223 u224 u225 u226 u227 u228 u229 u230 u231 u232 u233 u234 u235 u236 u237 u238 u239 u240 u241 u242 u243 u244 u245 u246 u247 u248 u249 u250 u251 u252 u253 u254 u255 u256 u257 u258 u259 u260 u261 u262 u263 u264 u265 u266 u267 u268 u269 u270 u271 u272 u273 : Value, a = ⟨List.toArray (c0 :: (.slice (some ⟨g, o, none⟩) L cap) :: (.pointer (some ⟨fb, 0, none⟩)) :: c3 :: c4 :: c5 :: (.pointer (some ⟨ob, 0, none⟩)) :: c7 :: c8 :: c9 :: (.int .i64 wd) :: c11 :: c12 :: c13 :: c14 :: c15 :: c16 :: c17 :: c18 :: (.bool true) :: (.pointer (some ⟨hb, 0, none⟩)) :: c21 :: c22 :: c23 :: (u24) :: (u25) :: (u26) :: (u27) :: (u28) :: c29 :: c30 :: c31 :: c32 :: c33 :: c34 :: c35 :: c36 :: c37 :: c38 :: c39 :: c40 :: c41 :: c42 :: c43 :: c44 :: c45 :: c46 :: c47 :: c48 :: c49 :: c50 :: c51 :: c52 :: c53 :: c54 :: c55 :: c56 :: c57 :: c58 :: c59 :: c60 :: c61 :: c62 :: c63 :: c64 :: c65 :: c66 :: c67 :: c68 :: c69 :: c70 :: c71 :: c72 :: c73 :: c74 :: c75 :: c76 :: c77 :: c78 :: c79 :: c80 :: c81 :: c82 :: c83 :: c84 :: c85 :: c86 :: c87 :: c88 :: c89 :: c90 :: c91 :: c92 :: c93 :: c94 :: c95 :: c96 :: c97 :: c98 :: c99 :: c100 :: c101 :: c102 :: c103 :: c104 :: c105 :: c106 :: c107 :: c108 :: c109 :: c110 :: c111 :: c112 :: c113 :: c114 :: c115 :: c116 :: c117 :: c118 :: c119 :: c120 :: c121 :: c122 :: c123 :: c124 :: c125 :: c126 :: c127 :: c128 :: c129 :: c130 :: c131 :: c132 :: c133 :: c134 :: c135 :: c136 :: c137 :: c138 :: c139 :: c140 :: c141 :: c142 :: c143 :: c144 :: c145 :: c146 :: c147 :: c148 :: c149 :: c150 :: c151 :: c152 :: c153 :: c154 :: c155 :: c156 :: c157 :: c158 :: c159 :: c160 :: c161 :: c162 :: c163 :: c164 :: c165 :: c166 :: c167 :: c168 :: c169 :: c170 :: c171 :: c172 :: c173 :: c174 :: c175 :: c176 :: c177 :: c178 :: c179 :: c180 :: c181 :: c182 :: c183 :: c184 :: c185 :: c186 :: c187 :: c188 :: c189 :: c190 :: c191 :: c192 :: c193 :: c194 :: c195 :: (u196) :: (u197) :: (u198) :: (u199) :: (u200) :: (u201) :: (u202) :: (u203) :: (u204) :: (u205) :: (u206) :: (u207) :: (u208) :: (u209) :: (u210) :: (u211) :: (u212) :: (u213) :: (u214) :: (u215) :: (u216) :: (u217) :: (u218) :: (u219) :: (u220) :: (u221) :: (u222) :: (u223) :: (u224) :: (u225) :: (u226) :: (u227) :: (u228) :: (u229) :: (u230) :: (u231) :: (u232) :: (u233) :: (u234) :: (u235) :: (u236) :: (u237) :: (u238) :: (u239) :: (u240) :: (u241) :: (u242) :: (u243) :: (u244) :: (u245) :: (u246) :: (u247) :: (u248) :: (u249) :: (u250) :: (u251) :: (u252) :: (u253) :: (u254) :: (u255) :: (u256) :: (u257) :: (u258) :: (u259) :: (u260) :: (u261) :: (u262) :: (u263) :: (u264) :: (u265) :: (u266) :: (u267) :: (u268) :: (u269) :: (u270) :: (u271) :: (u272) :: (u273) :: c274 :: []), []⟩) → UnL w5 wr ob e0 e1 e2 e3 e4 e5 e6 e7 (.int .i64 ((k0 + flS S T mw l h N : Nat) : Int)) zw zs ((List.range N).map fun i => vdO (scO S T mw l h i)) ((List.range N).map fun i => ((scO S T mw l h i).map (·.1)).getD []) → Q (.exit 10) a wr) :
    Code.wp Tryz.prog (Code.loop lpGood) (NoPanic Q) ⟨List.toArray (c0 :: (.slice (some ⟨g, o, none⟩) L cap) :: (.pointer (some ⟨fb, 0, none⟩)) :: c3 :: c4 :: c5 :: (.pointer (some ⟨ob, 0, none⟩)) :: c7 :: c8 :: c9 :: (.int .i64 wd) :: c11 :: c12 :: c13 :: c14 :: c15 :: c16 :: c17 :: c18 :: (.bool true) :: (.pointer (some ⟨hb, 0, none⟩)) :: c21 :: c22 :: c23 :: (.int .i64 0) :: c25 :: c26 :: c27 :: c28 :: c29 :: c30 :: c31 :: c32 :: c33 :: c34 :: c35 :: c36 :: c37 :: c38 :: c39 :: c40 :: c41 :: c42 :: c43 :: c44 :: c45 :: c46 :: c47 :: c48 :: c49 :: c50 :: c51 :: c52 :: c53 :: c54 :: c55 :: c56 :: c57 :: c58 :: c59 :: c60 :: c61 :: c62 :: c63 :: c64 :: c65 :: c66 :: c67 :: c68 :: c69 :: c70 :: c71 :: c72 :: c73 :: c74 :: c75 :: c76 :: c77 :: c78 :: c79 :: c80 :: c81 :: c82 :: c83 :: c84 :: c85 :: c86 :: c87 :: c88 :: c89 :: c90 :: c91 :: c92 :: c93 :: c94 :: c95 :: c96 :: c97 :: c98 :: c99 :: c100 :: c101 :: c102 :: c103 :: c104 :: c105 :: c106 :: c107 :: c108 :: c109 :: c110 :: c111 :: c112 :: c113 :: c114 :: c115 :: c116 :: c117 :: c118 :: c119 :: c120 :: c121 :: c122 :: c123 :: c124 :: c125 :: c126 :: c127 :: c128 :: c129 :: c130 :: c131 :: c132 :: c133 :: c134 :: c135 :: c136 :: c137 :: c138 :: c139 :: c140 :: c141 :: c142 :: c143 :: c144 :: c145 :: c146 :: c147 :: c148 :: c149 :: c150 :: c151 :: c152 :: c153 :: c154 :: c155 :: c156 :: c157 :: c158 :: c159 :: c160 :: c161 :: c162 :: c163 :: c164 :: c165 :: c166 :: c167 :: c168 :: c169 :: c170 :: c171 :: c172 :: c173 :: c174 :: c175 :: c176 :: c177 :: c178 :: c179 :: c180 :: c181 :: c182 :: c183 :: c184 :: c185 :: c186 :: c187 :: c188 :: c189 :: c190 :: c191 :: c192 :: c193 :: c194 :: c195 :: c196 :: c197 :: c198 :: c199 :: c200 :: c201 :: c202 :: c203 :: c204 :: c205 :: c206 :: c207 :: c208 :: c209 :: c210 :: c211 :: c212 :: c213 :: c214 :: c215 :: c216 :: c217 :: c218 :: c219 :: c220 :: c221 :: c222 :: c223 :: c224 :: c225 :: c226 :: c227 :: c228 :: c229 :: c230 :: c231 :: c232 :: c233 :: c234 :: c235 :: c236 :: c237 :: c238 :: c239 :: c240 :: c241 :: c242 :: c243 :: c244 :: c245 :: c246 :: c247 :: c248 :: c249 :: c250 :: c251 :: c252 :: c253 :: c254 :: c255 :: c256 :: c257 :: c258 :: c259 :: c260 :: c261 :: c262 :: c263 :: c264 :: c265 :: c266 :: c267 :: c268 :: c269 :: c270 :: c271 :: c272 :: c273 :: c274 :: []), []⟩ w5 := by
  conv => arg 2; arg 1; whnf
  have HPW := hid hpw
  have HWD := hid hwd
  have HNL := hid hNL
  have HRW := hid hrw
  have HV := hid hv
  have HLEN := hid hll
  have HX := hid hx
  have HBW := hid hbw
  have HNE := hid (And.intro hobw (And.intro hfo (And.intro hho hoM)))
  have HFX := hid hfx
  have HHB := hid hhb
  have HSL := hid hsl
  have HSN := hid hlen
  have HOK := hid hok
  have HOB := hid hob
  have HOB5 := hid (lt_at hob)
  have HEX := hid hexit
  have HS := hid (And.intro hS1 hS2)
  have HT8 := hid hT8
  have HCA := hid (And.intro hca hcb)
  have hca1 : (L : Int) ≤ (cap : Int) := by omega
  have hca2 : (cap : Int) ≤ 9223372036854775807 := by unfold maxLen at hcb; omega
  clear hpw hwd hNL hrw hv hll hx hbw hobw hfo hho hoM hfx hhb hsl hlen hok hob hexit hS1 hS2 hT8 hca hcb
  go_loopg [24] N (fun gk i wr => ∃ (I : Nat) (zw zs : Value), I + gk = N ∧ i = .int .i64 I ∧ UnL w5 wr ob e0 e1 e2 e3 e4 e5 e6 e7 (.int .i64 ((k0 + flS S T mw l h I : Nat) : Int)) zw zs ((List.range I).map fun i => vdO (scO S T mw l h i)) ((List.range I).map fun i => ((scO S T mw l h i).map (·.1)).getD []) ∧ k0 + flS S T mw l h I ≤ 8 + 8 * I)
  case atStart => exact ⟨0, _, _, by omega, rfl, by have := UnL.start HOB.out; exact this, by show k0 + 0 ≤ 8 + 8 * 0; omega⟩
  case round =>
    obtain ⟨I, zw, zs, hI, rfl, hun, hFb⟩ := hrel
    obtain ⟨F, hF⟩ : ∃ F, k0 + flS S T mw l h I = F := ⟨_, rfl⟩
    obtain ⟨ws, hws⟩ : ∃ z, ((List.range I).map fun i => vdO (scO S T mw l h i)) = z := ⟨_, rfl⟩
    obtain ⟨rs, hrs⟩ : ∃ z, ((List.range I).map fun i => ((scO S T mw l h i).map (·.1)).getD []) = z := ⟨_, rfl⟩
    rw [hF, hws, hrs] at hun
    rw [hF] at hFb
    have HFB := hid hFb
    clear hFb
    have hwl : ws.length = I := by rw [← hws]; simp
    have hrl : rs.length = I := by rw [← hrs]; simp
    have HUN := hid hun
    have HF := hid hF
    have HWS := hid hws
    have HRS := hid hrs
    have HWL := hid hwl
    have HRL := hid hrl
    have hfw := (hun.gr.block fb (lt_at HFX.out) (fun e => HNE.out.2.1 (by cases e; rfl))).trans HFX.out
    have HFW := hid hfw
    have HHW := hid ((hun.gr.block hb (lt_at HHB.out) (fun e => HNE.out.2.2.1 (by cases e; rfl))).trans HHB.out)
    have HSLW := hid (HSL.out.keep (Keep.of_grown hun.gr HNE.out.2.2.2))
    have hBl : Below w.heap.size w wr := below_grown HBW.out hun.gr HNE.out.1 HBW.out.size
    have HBL := hid hBl
    have hwB : w5.heap.size ≤ wr.heap.size := hun.gr.size
    have d1 := cell_at hfw 1
    clear hun hF hws hrs hwl hrl hfw hBl
    by_cases hlt : I < N
    · have hIi : (I : Int) < (N : Int) := by omega
      obtain ⟨K, hK⟩ : ∃ K, I * wd = K := ⟨_, rfl⟩
      have hK1 : (I + 1) * wd = K + wd := by rw [Nat.succ_mul, hK]
      have hKL : K + wd ≤ L := by
        have h1 : (I + 1) * wd ≤ N * wd := Nat.mul_le_mul_right _ hlt
        have := HNL.out
        omega
      have hm1 : (I : Int) * (wd : Int) = ((K : Nat) : Int) := by rw [← hK]; push_cast; rfl
      have hm2 : ((I : Int) + 1) * (wd : Int) = (K : Int) + (wd : Int) := by rw [show ((I : Int) + 1) * (wd : Int) = (((I + 1) * wd : Nat) : Int) by push_cast; rfl, hK1]; push_cast; rfl
      have hrd := rd_cut (HV.out.below HBL.out) HLEN.out K wd (cap - K) (by omega) (by have := HCA.out.1; omega) (by have := HCA.out.2; omega)
      have hwS : wd = S + 4 + pcn mw T := HWD.out.symm
      have hcl : (cut l K wd).length = S + 4 + pcn mw T := by rw [← hwS]; exact cut_len (by rw [HLEN.out]; omega)
      have hKE : I * wdB S T mw = K := by rw [HWD.out]; exact hK
      have hd1 : 1 ≤ wd := by omega
      have RD := hid hrd
      have HCL := hid hcl
      have HKE := hid hKE
      have HWS' := hid hwS
      have HI8 := hid (show I ≤ 8 by omega)
      have hwK : IntKind.i64.wrap ((I : Int) * (wd : Int)) = ((K : Nat) : Int) := by rw [hm1]; exact IntWalk.i64_in _ (by omega)
      have hwK1 : IntKind.i64.wrap (((I : Int) + 1) * (wd : Int)) = (K : Int) + (wd : Int) := by rw [hm2]; exact IntWalk.i64_in _ (by omega)
      have hwK2 : IntKind.i64.wrap ((K : Nat) : Int) = ((K : Nat) : Int) := IntWalk.i64_in _ (by omega)
      have hwK3 : IntKind.i64.wrap ((K : Int) + (wd : Int)) = (K : Int) + (wd : Int) := IntWalk.i64_in _ (by omega)
      have hwI : IntKind.i64.wrap ((I : Int) + 1) = (I : Int) + 1 := IntWalk.i64_in _ (by omega)
      have j1 : (0 : Int) ≤ (K : Int) := by omega
      have j2 : (K : Int) ≤ (K : Int) + (wd : Int) := by omega
      have j3 : (K : Int) + (wd : Int) ≤ (cap : Int) := by omega
      have t1 : ((K : Int) + (wd : Int)).toNat = K + wd := by omega
      have hbcn : ¬ cap = K := by have := HCA.out.1; omega
      have hsub : K + wd - K = wd := by omega
      clear hrd hcl hKE hwS hK hK1 hKL hd1
      have HOA : Hid (∀ V, Below wr.heap.size wr V → Calls Tryz.prog 41 #[.agg #[.int .i64 mw, .int .i64 ((S : Int) + 4), .int .i64 T, .slice ga gl gc], .slice (some ⟨g, o + K, none⟩) wd (cap - K), .int .i64 S] V fun e w' => NextRet mw T S (cut l K wd) V w' e ∧ Below V.heap.size V w') := hid fun V hV =>
        r5open_any _ _ (cut l K wd) S T mw V HPW.out (HRW.out.below (HBL.out.comp hV)) (RD.out.below hV) HCL.out (cut_lt HX.out _ _) HS.out.1
      cases hO : opnB mw T S (cut l K wd) with
      | none =>
        have HSC : Hid (scO S T mw l h I = none) := hid (sco_none (by rw [HKE.out, ← HWS'.out]; exact hO))
        have HE1 : Hid (((List.range (I + 1)).map fun i => vdO (scO S T mw l h i)) = ws ++ [3]) := hid (by rw [List.range_succ, List.map_append, HWS.out, List.map_cons, List.map_nil, HSC.out]; rfl)
        have HE2 : Hid (((List.range (I + 1)).map fun i => ((scO S T mw l h i).map (·.1)).getD []) = rs ++ [[]]) := hid (by rw [List.range_succ, List.map_append, HRS.out, List.map_cons, List.map_nil, HSC.out]; rfl)
        have HE3 : Hid (k0 + flS S T mw l h (I + 1) = F) := hid (by rw [flS_succ, HSC.out, ← HF.out]; rfl)
        have HOP : Hid (∀ V, Below wr.heap.size wr V → Calls Tryz.prog 41 #[.agg #[.int .i64 mw, .int .i64 ((S : Int) + 4), .int .i64 T, .slice ga gl gc], .slice (some ⟨g, o + K, none⟩) wd (cap - K), .int .i64 S] V fun e w' => e = .returned (.tuple #[.slice none 0 0, .int .u32 0, .int .i64 0, .bool false]) ∧ Below wr.heap.size wr w') := hid fun V hV => by
          refine (HOA.out V hV).mono ?_
          rintro e w' ⟨hn, hb⟩
          rcases hn with ⟨g1, c1, x, s, k, _, _, _, _, _, _, _, _, _, hop⟩ | ⟨rfl, _⟩
          · rw [hO] at hop; cases hop
          · exact ⟨rfl, hV.comp hb⟩
        clear hO
        have hfw2 := HFW.out
        have d0 := cell_at hfw2 0
        have d3 := cell_at hfw2 3
        have d4 := cell_at hfw2 4
        have d5 := cell_at hfw2 5
        have d6 := cell_at hfw2 6
        have hcr : Below wr.heap.size wr wr.drew := (Below.refl _ _).drew
        clear hfw2
        go_upto_region 48 with (fail)
        go_region_held3 (fun w' => w'.cell? ⟨fb, 0, none⟩ = some (.int .i64 S) ∧ w'.cell? ⟨fb, 3, none⟩ = some (.int .i64 mw) ∧ w'.cell? ⟨fb, 4, none⟩ = some (.int .i64 ((S : Int) + 4)) ∧ w'.cell? ⟨fb, 5, none⟩ = some (.int .i64 T) ∧ w'.cell? ⟨fb, 6, none⟩ = some (.slice ga gl gc))
          (first | exact ⟨d0, d3, d4, d5, d6⟩ | exact ⟨x0', x3', x4', x5', x6'⟩)
          (first
          | (go_at_call 41; refine (HOP.out wr.drew hcr).mono ?_; rintro e wa ⟨rfl, hba⟩; have hfa := (hba.block fb (lt_at HFW.out)).trans HFW.out; have x0' := cell_at hfa 0; have x3' := cell_at hfa 3; have x4' := cell_at hfa 4; have x5' := cell_at hfa 5; have x6' := cell_at hfa 6;  have HBA := hid hba; clear hfa hba)
          | fail)
        clear d0 d1 d3 d4 d5 d6 x0' x3' x4' x5' x6' hcr hwK hwK1 hwK2 hwK3 j1 j2 j3 t1 hbcn hsub hm1 hm2 hca1 hca2
        have HUNA := hid (HUN.out.below HBA.out)
        have HHA := hid ((HBA.out.block hb (lt_at HHW.out)).trans HHW.out)
        have HSLA := hid (HSLW.out.keep (Keep.of_below HBA.out))
        have hwBa : w5.heap.size ≤ wa.heap.size := Nat.le_trans hwB HBA.out.size
        have HVD : Hid (∀ V, Calls Tryz.prog 43 #[.int .i64 0, .bool false] V fun e w' => e = .returned (.int .i64 ((3 : Nat) : Int)) ∧ V = w') := hid (fun V => r5verdict_any 0 false V)
        have HUNX := HUNA
        have p8 := cell_at HUNX.out.ho 8
        have y8 := free_at HUNX.out.ho 8
        have hoX := HUNX.out.ho
        have hzw : ∀ q, zw.ownBlock = some q → q ≠ ob := fun q hq e => by have h1 := (HUNX.out.hw.blk q hq).1; have h2 := HOB5.out; omega
        have hobX : ob < wa.heap.size := lt_at hoX
        have HOX := hid hoX
        clear hoX
        go_upto_region 50 with (fail)
        go_region_law (first
          | (refine step_call2q (by rfl) 43 (enters_of Tryz.func43 (by kernel_rfl) rfl) (.tmp 251) (.tmp 252) _ (by rfl) _ _ (by rfl) (by rfl) _ (HVD.out _) ?_)
          | (refine step_one el_int (by rfl) (.tmp 250) (.tmp 254) (by rfl) w5.heap.size zw ws (by rfl) (by exact (HUNX.out.hw.drewN 1).alloc _) ⟨wa.heap.size, 0, none⟩ 1 3 (by rfl) (by exact new_cell _ _ _) (by rw [HWL.out]; have := HI8.out; omega) (by simp; omega) ?_; intro g6 cap6 w6 hown hgrow hat; have hst := (HUNX.out.below (((Below.refl wa.heap.size wa).drew).alloc (Nat.le_refl _) _)).word HOB5.out hown hgrow hat; have p8' := cell_at hst.1 8; have y8' := free_at hst.1 8; have HST := hid hst.2; have HGW := hid hgrow; have HATW := hid hat; clear hown hgrow hat hst)
          | fail)
        all_goals
          obtain ⟨w7, hw7⟩ : ∃ V, w6.setCell ⟨ob, 8, none⟩ (.slice (some ⟨g6, 0, none⟩) (ws.length + 1) cap6) = V := ⟨_, rfl⟩
          rw [hw7] at HST ⊢
          have hobw := HST.out.ho
          have hwB7 : w5.heap.size ≤ w7.heap.size := HST.out.gr.size
          have p9 := cell_at hobw 9
          have y9 := free_at hobw 9
          clear hw7 hobw p8 y8 p8' y8'
          go_wp2_with (at_builtin; refine app_one_row el_rows rfl _ _ rfl w5.heap.size _ zs rs (by rfl) (HST.out.hr.below ((Below.refl w7.heap.size w7).alloc (Nat.le_refl _) _)) w7.heap.size (.slice none 0 0) (by rfl) (by rw [new_cell]) [] (.inl ⟨rfl, rfl⟩) (by rw [HRL.out]; have := HI8.out; omega) (by simp; omega) ?_; intro g8 cap8 w8 hown hgrow hat; have hst := (HST.out.below ((Below.refl w7.heap.size w7).alloc (Nat.le_refl _) _)).sector HOB5.out hown hgrow hat; have p9' := cell_at hst.1 9; have y9' := free_at hst.1 9; have HSU := hid hst.2; clear hown hgrow hat hst)
          go_roundg (gk - 1)
          case measure => omega
          case rel =>
            refine ⟨I + 1, .slice (some ⟨g6, 0, none⟩) (ws.length + 1) cap6, .slice (some ⟨g8, 0, none⟩) (rs.length + 1) cap8, by omega, by go_num, ?_, ?_⟩
            · rw [HE1.out, HE2.out, HE3.out]
              exact HSU.out
            · rw [HE3.out]; have := HFB.out; omega
      | some r =>
        obtain ⟨x, s, k⟩ := r
        by_cases hsum : sumB (h.slots.getD I Slot.zero) x = s
        · -- good
          have HSC : Hid (scO S T mw l h I = some (x, k)) := hid (sco_yes (by rw [HKE.out, ← HWS'.out]; exact hO) hsum)
          obtain ⟨vk, hvk⟩ : ∃ z, vd k = z := ⟨_, rfl⟩
          have HVK := hid hvk
          clear hvk
          have HE1 : Hid (((List.range (I + 1)).map fun i => vdO (scO S T mw l h i)) = ws ++ [vk]) := hid (by rw [List.range_succ, List.map_append, HWS.out, List.map_cons, List.map_nil, HSC.out, ← HVK.out]; rfl)
          have HE2 : Hid (((List.range (I + 1)).map fun i => ((scO S T mw l h i).map (·.1)).getD []) = rs ++ [x]) := hid (by rw [List.range_succ, List.map_append, HRS.out, List.map_cons, List.map_nil, HSC.out]; rfl)
          have HE3 : Hid (k0 + flS S T mw l h (I + 1) = F + k) := hid (by rw [flS_succ, HSC.out, ← HF.out, ← Nat.add_assoc]; rfl)
          have HOP : Hid (∀ V, Below wr.heap.size wr V → Calls Tryz.prog 41 #[.agg #[.int .i64 mw, .int .i64 ((S : Int) + 4), .int .i64 T, .slice ga gl gc], .slice (some ⟨g, o + K, none⟩) wd (cap - K), .int .i64 S] V fun e w' => ∃ gy cy, e = .returned (.tuple #[.slice (some ⟨gy, 0, none⟩) S cy, .int .u32 (s : Nat), .int .i64 (k : Nat), .bool true]) ∧ (wr.heap.size ≤ gy ∧ S ≤ cy ∧ cy ≤ maxLen ∧ Rd .u8 w' (.slice (some ⟨gy, 0, none⟩) S cy) x ∧ x.length = S ∧ (∀ y ∈ x, y < 256) ∧ k ≤ T ∧ s < 4294967296) ∧ Below wr.heap.size wr w') := hid fun V hV => by
            refine (HOA.out V hV).mono ?_
            rintro e w' ⟨hn, hb⟩
            rcases hn with ⟨g1, c1, x', s', k', b1, b2, b3, rfl, b5, b6, b7, b8, b9, b10⟩ | ⟨_, b10⟩
            · rw [hO] at b10
              simp only [Option.some.injEq, Prod.mk.injEq] at b10
              obtain ⟨rfl, rfl, rfl⟩ := b10
              exact ⟨g1, c1, rfl, ⟨Nat.le_trans hV.size b1, b2, b3, b5, b6, b7, b8, b9⟩, hV.comp hb⟩
            · rw [hO] at b10; cases b10
          have HLT := hid hlt
          have HSUM := hid hsum
          clear hO hsum
          have hfw2 := HFW.out
          have d0 := cell_at hfw2 0
          have d3 := cell_at hfw2 3
          have d4 := cell_at hfw2 4
          have d5 := cell_at hfw2 5
          have d6 := cell_at hfw2 6
          have hcr : Below wr.heap.size wr wr.drew := (Below.refl _ _).drew
          clear hfw2
          go_upto_region 48 with (fail)
          go_region_held3 (fun w' => w'.cell? ⟨fb, 0, none⟩ = some (.int .i64 S) ∧ w'.cell? ⟨fb, 3, none⟩ = some (.int .i64 mw) ∧ w'.cell? ⟨fb, 4, none⟩ = some (.int .i64 ((S : Int) + 4)) ∧ w'.cell? ⟨fb, 5, none⟩ = some (.int .i64 T) ∧ w'.cell? ⟨fb, 6, none⟩ = some (.slice ga gl gc))
            (first | exact ⟨d0, d3, d4, d5, d6⟩ | exact ⟨x0', x3', x4', x5', x6'⟩)
            (first
            | (go_at_call 41; refine (HOP.out wr.drew hcr).mono ?_; rintro e wa ⟨gy, cy, rfl, hy, hba⟩; have hfa := (hba.block fb (lt_at HFW.out)).trans HFW.out; have x0' := cell_at hfa 0; have x3' := cell_at hfa 3; have x4' := cell_at hfa 4; have x5' := cell_at hfa 5; have x6' := cell_at hfa 6; have HY := hid hy; clear hy; have HBA := hid hba; clear hfa hba)
            | fail)
          clear d0 d1 d3 d4 d5 d6 x0' x3' x4' x5' x6' hcr hwK hwK1 hwK2 hwK3 j1 j2 j3 t1 hbcn hsub hm1 hm2 hca1 hca2
          have HUNA := hid (HUN.out.below HBA.out)
          have HHA := hid ((HBA.out.block hb (lt_at HHW.out)).trans HHW.out)
          have HSLA := hid (HSLW.out.keep (Keep.of_below HBA.out))
          have hwBa : w5.heap.size ≤ wa.heap.size := Nat.le_trans hwB HBA.out.size
          obtain ⟨c1, c2, y0, y1, y2⟩ := HSLA.out.cells HSN.out HLT.out
          have hok := HOK.out _ (getD_slot (by rw [HSN.out]; exact HLT.out) : h.slots.getD I Slot.zero ∈ h.slots)
          obtain ⟨sl, hsl⟩ : ∃ z, h.slots.getD I Slot.zero = z := ⟨_, rfl⟩
          rw [hsl] at y0 y1 y2 hok HSUM
          have hkey := hok.2.1
          have HOK1 := hid hok.1
          have hkT : k ≤ T := HY.out.2.2.2.2.2.2.1
          have hT8 := HT8.out
          have hFb := HFB.out
          have i2 : (N : Int) ≤ (sc : Int) := by omega
          have i3 : (sc : Int) ≤ 9223372036854775807 := by unfold maxLen at c2; omega
          have q5 := cell_at HHA.out 5
          clear c1 c2 hok hsl
          go_upto_region 49 with (fail)
          go_wp2_with fail
          refine (r5slot_any sl wa HOK1.out hkey).mono ?_
          rintro e w2 ⟨v2, rfl, hown2, hb2⟩
          have HSUM2 := hid (r3sum_any v2 (slotB sl) w2 hown2.rd (slotB_lt HOK1.out))
          have HMO := hid (r3more_any (sum (slotB sl)) _ x w2 (sum_lt (slotB_lt HOK1.out)) (HY.out.2.2.2.1.below hb2) HY.out.2.2.2.2.2.1)
          obtain ⟨ss, hss⟩ : ∃ z, sum (slotB sl) = z := ⟨_, rfl⟩
          obtain ⟨sm, hsm⟩ : ∃ z, more ss x = z := ⟨_, rfl⟩
          have HSM : Hid (sumB sl x = sm) := hid (by unfold sumB; rw [hss, hsm])
          rw [hss] at HSUM2 HMO
          rw [hsm] at HMO
          have HB2 := hid hb2
          have HUNX := hid (HUNA.out.below hb2)
          have hwBx : w5.heap.size ≤ w2.heap.size := Nat.le_trans hwBa hb2.size
          clear hown2 hb2 hss hsm y0 y1 y2 q5 i2 i3 hkey
          go_wp2_with fail
          refine HSUM2.out.mono ?_
          rintro e w3 ⟨rfl, rfl⟩
          go_wp2_with fail
          have hne : sm = s := HSM.out.symm.trans HSUM.out
          rw [hne] at HMO
          clear hne
          refine HMO.out.mono ?_
          rintro e w3 ⟨rfl, rfl⟩
          have HVD : Hid (∀ V, Calls Tryz.prog 43 #[.int .i64 (k : Nat), .bool true] V fun e w' => e = .returned (.int .i64 (vk : Nat)) ∧ V = w') := hid (fun V => by have := r5verdict_any k true V; rw [if_pos rfl, HVK.out] at this; exact this)
          have p8 := cell_at HUNX.out.ho 8
          have y8 := free_at HUNX.out.ho 8
          have hoX := HUNX.out.ho
          have hzw : ∀ q, zw.ownBlock = some q → q ≠ ob := fun q hq e => by have h1 := (HUNX.out.hw.blk q hq).1; have h2 := HOB5.out; omega
          have hobX : ob < w2.heap.size := lt_at hoX
          have HOX := hid hoX
          clear hoX
          go_upto_region 50 with (fail)
          go_region_law (first
            | (refine step_call2q (by rfl) 43 (enters_of Tryz.func43 (by kernel_rfl) rfl) (.tmp 251) (.tmp 252) _ (by rfl) _ _ (by rfl) (by rfl) _ (HVD.out _) ?_)
            | (refine step_one el_int (by rfl) (.tmp 250) (.tmp 254) (by rfl) w5.heap.size zw ws (by rfl) (by exact (HUNX.out.hw.drewN 1).alloc _) ⟨w2.heap.size, 0, none⟩ 1 vk (by rfl) (by exact new_cell _ _ _) (by rw [HWL.out]; have := HI8.out; omega) (by simp; omega) ?_; intro g6 cap6 w6 hown hgrow hat; have hst := (HUNX.out.below (((Below.refl w2.heap.size w2).drew).alloc (Nat.le_refl _) _)).word HOB5.out hown hgrow hat; have p8' := cell_at hst.1 8; have y8' := free_at hst.1 8; have HST := hid hst.2; have HGW := hid hgrow; have HATW := hid hat; clear hown hgrow hat hst)
            | fail)
          all_goals
            obtain ⟨w7, hw7⟩ : ∃ V, w6.setCell ⟨ob, 8, none⟩ (.slice (some ⟨g6, 0, none⟩) (ws.length + 1) cap6) = V := ⟨_, rfl⟩
            have hgyl : gy < wa.heap.size := World.block_lt_of_cell? _ _ (HY.out.2.2.2.1.atc (j := 0) (by rw [HY.out.2.2.2.2.1]; exact HS.out.1))
            have hgy2 : gy < w2.heap.size := Nat.lt_of_lt_of_le hgyl HB2.out.size
            have hgyr : wr.heap.size ≤ gy := HY.out.1
            have hgob : gy ≠ ob := by have h1 := HOB5.out; omega
            have hzq : ∀ q, zw.ownBlock = some q → q ≠ gy := fun q hq e => by have h1 := (HUN.out.hw.blk q hq).2; omega
            have hrdx : Rd .u8 w7 (.slice (some ⟨gy, 0, none⟩) S cy) x := by
              refine rd_keep HY.out.2.2.2.1 ?_
              rw [← hw7]
              exact (set_other (a := ⟨ob, 8, none⟩) hgob).trans ((HGW.out.block gy (by simp; omega) (fun e => hzq gy e.symm rfl)).trans ((alloc_old (w := w2.drew) (by show gy < w2.heap.size; exact hgy2)).trans (HB2.out.block gy hgyl)))
            have hg6y : g6 ≠ gy := by
              rcases HATW.out with h1 | h1
              · exact hzq g6 h1
              · simp at h1; omega
            have hgy7 : gy < w7.heap.size := World.block_lt_of_cell? _ _ (hrdx.atc (j := 0) (by rw [HY.out.2.2.2.2.1]; exact HS.out.1))
            have hzs : zs.ownBlock ≠ some gy := fun e => by have h1 := (HUN.out.hr.blk gy e).2; omega
            have HRW7 : Hid (∀ u, (.slice (some ⟨gy, 0, none⟩) S cy = Value.slice none 0 0 ∧ x = []) ∨ ∃ g' c', w5.heap.size ≤ g' ∧ g' < (w7.alloc u).heap.size ∧ ¬ (Value.slice (some ⟨g6, 0, none⟩) (ws.length + 1) cap6).ownBlock = some g' ∧ zs.ownBlock ≠ some g' ∧ Value.slice (some ⟨gy, 0, none⟩) S cy = .slice (some ⟨g', 0, none⟩) x.length c' ∧ Rd .u8 (w7.alloc u) (.slice (some ⟨gy, 0, none⟩) S cy) x) :=
              hid fun u => .inr ⟨gy, cy, by omega, by simp; omega, by simp only [Value.ownBlock, Option.some.injEq]; exact hg6y, hzs, by rw [HY.out.2.2.2.2.1], hrdx.below ((Below.refl _ _).alloc (Nat.le_refl _) _)⟩
            rw [hw7] at HST ⊢
            have hobw := HST.out.ho
            have hwB7 : w5.heap.size ≤ w7.heap.size := HST.out.gr.size
            have p9 := cell_at hobw 9
            have y9 := free_at hobw 9
            have hk8 : k ≤ 8 := by omega
            have hF72 : F ≤ 72 := by have := HI8.out; omega
            clear hw7 hobw p8 y8 p8' y8' hgyl hgy2 hgyr hgob hzq hrdx hg6y hgy7 hzs hFb
            go_wp2_with (at_builtin; refine app_one_row el_rows rfl _ _ rfl w5.heap.size _ zs rs (by rfl) (HST.out.hr.below ((Below.refl w7.heap.size w7).alloc (Nat.le_refl _) _)) w7.heap.size (.slice (some ⟨gy, 0, none⟩) S cy) (by rfl) (by rw [new_cell]) x (HRW7.out _) (by rw [HRL.out]; have := HI8.out; omega) (by simp; omega) ?_; intro g8 cap8 w8 hown hgrow hat; have hst := (HST.out.below ((Below.refl w7.heap.size w7).alloc (Nat.le_refl _) _)).sector HOB5.out hown hgrow hat; have p9' := cell_at hst.1 9; have y9' := free_at hst.1 9; have p10' := cell_at hst.2.ho 10; have y10' := free_at hst.2.ho 10; have HSU := hid hst.2; clear hown hgrow hat hst)
            go_roundg (gk - 1)
            case measure => omega
            case rel =>
              refine ⟨I + 1, .slice (some ⟨g6, 0, none⟩) (ws.length + 1) cap6, .slice (some ⟨g8, 0, none⟩) (rs.length + 1) cap8, by omega, by go_num, ?_, ?_⟩
              · rw [HE1.out, HE2.out, HE3.out]
                exact HSU.out.flips HOB5.out _
              · rw [HE3.out]; have := HFB.out; omega
        · -- another sum
          have HSC : Hid (scO S T mw l h I = none) := hid (sco_no (by rw [HKE.out, ← HWS'.out]; exact hO) hsum)
          have HE1 : Hid (((List.range (I + 1)).map fun i => vdO (scO S T mw l h i)) = ws ++ [3]) := hid (by rw [List.range_succ, List.map_append, HWS.out, List.map_cons, List.map_nil, HSC.out]; rfl)
          have HE2 : Hid (((List.range (I + 1)).map fun i => ((scO S T mw l h i).map (·.1)).getD []) = rs ++ [[]]) := hid (by rw [List.range_succ, List.map_append, HRS.out, List.map_cons, List.map_nil, HSC.out]; rfl)
          have HE3 : Hid (k0 + flS S T mw l h (I + 1) = F) := hid (by rw [flS_succ, HSC.out, ← HF.out]; rfl)
          have HOP : Hid (∀ V, Below wr.heap.size wr V → Calls Tryz.prog 41 #[.agg #[.int .i64 mw, .int .i64 ((S : Int) + 4), .int .i64 T, .slice ga gl gc], .slice (some ⟨g, o + K, none⟩) wd (cap - K), .int .i64 S] V fun e w' => ∃ gy cy, e = .returned (.tuple #[.slice (some ⟨gy, 0, none⟩) S cy, .int .u32 (s : Nat), .int .i64 (k : Nat), .bool true]) ∧ (wr.heap.size ≤ gy ∧ S ≤ cy ∧ cy ≤ maxLen ∧ Rd .u8 w' (.slice (some ⟨gy, 0, none⟩) S cy) x ∧ x.length = S ∧ (∀ y ∈ x, y < 256) ∧ k ≤ T ∧ s < 4294967296) ∧ Below wr.heap.size wr w') := hid fun V hV => by
            refine (HOA.out V hV).mono ?_
            rintro e w' ⟨hn, hb⟩
            rcases hn with ⟨g1, c1, x', s', k', b1, b2, b3, rfl, b5, b6, b7, b8, b9, b10⟩ | ⟨_, b10⟩
            · rw [hO] at b10
              simp only [Option.some.injEq, Prod.mk.injEq] at b10
              obtain ⟨rfl, rfl, rfl⟩ := b10
              exact ⟨g1, c1, rfl, ⟨Nat.le_trans hV.size b1, b2, b3, b5, b6, b7, b8, b9⟩, hV.comp hb⟩
            · rw [hO] at b10; cases b10
          have HLT := hid hlt
          have HSUM := hid hsum
          clear hO hsum
          have hfw2 := HFW.out
          have d0 := cell_at hfw2 0
          have d3 := cell_at hfw2 3
          have d4 := cell_at hfw2 4
          have d5 := cell_at hfw2 5
          have d6 := cell_at hfw2 6
          have hcr : Below wr.heap.size wr wr.drew := (Below.refl _ _).drew
          clear hfw2
          go_upto_region 48 with (fail)
          go_region_held3 (fun w' => w'.cell? ⟨fb, 0, none⟩ = some (.int .i64 S) ∧ w'.cell? ⟨fb, 3, none⟩ = some (.int .i64 mw) ∧ w'.cell? ⟨fb, 4, none⟩ = some (.int .i64 ((S : Int) + 4)) ∧ w'.cell? ⟨fb, 5, none⟩ = some (.int .i64 T) ∧ w'.cell? ⟨fb, 6, none⟩ = some (.slice ga gl gc))
            (first | exact ⟨d0, d3, d4, d5, d6⟩ | exact ⟨x0', x3', x4', x5', x6'⟩)
            (first
            | (go_at_call 41; refine (HOP.out wr.drew hcr).mono ?_; rintro e wa ⟨gy, cy, rfl, hy, hba⟩; have hfa := (hba.block fb (lt_at HFW.out)).trans HFW.out; have x0' := cell_at hfa 0; have x3' := cell_at hfa 3; have x4' := cell_at hfa 4; have x5' := cell_at hfa 5; have x6' := cell_at hfa 6; have HY := hid hy; clear hy; have HBA := hid hba; clear hfa hba)
            | fail)
          clear d0 d1 d3 d4 d5 d6 x0' x3' x4' x5' x6' hcr hwK hwK1 hwK2 hwK3 j1 j2 j3 t1 hbcn hsub hm1 hm2 hca1 hca2
          have HUNA := hid (HUN.out.below HBA.out)
          have HHA := hid ((HBA.out.block hb (lt_at HHW.out)).trans HHW.out)
          have HSLA := hid (HSLW.out.keep (Keep.of_below HBA.out))
          have hwBa : w5.heap.size ≤ wa.heap.size := Nat.le_trans hwB HBA.out.size
          obtain ⟨c1, c2, y0, y1, y2⟩ := HSLA.out.cells HSN.out HLT.out
          have hok := HOK.out _ (getD_slot (by rw [HSN.out]; exact HLT.out) : h.slots.getD I Slot.zero ∈ h.slots)
          obtain ⟨sl, hsl⟩ : ∃ z, h.slots.getD I Slot.zero = z := ⟨_, rfl⟩
          rw [hsl] at y0 y1 y2 hok HSUM
          have hkey := hok.2.1
          have HOK1 := hid hok.1
          have hkT : k ≤ T := HY.out.2.2.2.2.2.2.1
          have hT8 := HT8.out
          have hFb := HFB.out
          have i2 : (N : Int) ≤ (sc : Int) := by omega
          have i3 : (sc : Int) ≤ 9223372036854775807 := by unfold maxLen at c2; omega
          have q5 := cell_at HHA.out 5
          clear c1 c2 hok hsl
          go_upto_region 49 with (fail)
          go_wp2_with fail
          refine (r5slot_any sl wa HOK1.out hkey).mono ?_
          rintro e w2 ⟨v2, rfl, hown2, hb2⟩
          have HSUM2 := hid (r3sum_any v2 (slotB sl) w2 hown2.rd (slotB_lt HOK1.out))
          have HMO := hid (r3more_any (sum (slotB sl)) _ x w2 (sum_lt (slotB_lt HOK1.out)) (HY.out.2.2.2.1.below hb2) HY.out.2.2.2.2.2.1)
          obtain ⟨ss, hss⟩ : ∃ z, sum (slotB sl) = z := ⟨_, rfl⟩
          obtain ⟨sm, hsm⟩ : ∃ z, more ss x = z := ⟨_, rfl⟩
          have HSM : Hid (sumB sl x = sm) := hid (by unfold sumB; rw [hss, hsm])
          rw [hss] at HSUM2 HMO
          rw [hsm] at HMO
          have HB2 := hid hb2
          have HUNX := hid (HUNA.out.below hb2)
          have hwBx : w5.heap.size ≤ w2.heap.size := Nat.le_trans hwBa hb2.size
          clear hown2 hb2 hss hsm y0 y1 y2 q5 i2 i3 hkey
          go_wp2_with fail
          refine HSUM2.out.mono ?_
          rintro e w3 ⟨rfl, rfl⟩
          go_wp2_with fail
          have hne : ¬ sm = s := fun e => HSUM.out (HSM.out.trans e)
          have hn1 : ¬ (sm : Int) = (s : Int) := by omega
          have hn2 : ((sm : Int) == (s : Int)) = false := beq_eq_false_iff_ne.2 (fun h => hn1 h)
          have hn3 : (sm == s) = false := beq_eq_false_iff_ne.2 hne
          refine HMO.out.mono ?_
          rintro e w3 ⟨rfl, rfl⟩
          have HVD : Hid (∀ V, Calls Tryz.prog 43 #[.int .i64 (k : Nat), .bool false] V fun e w' => e = .returned (.int .i64 ((3 : Nat) : Int)) ∧ V = w') := hid (fun V => r5verdict_any k false V)
          have p8 := cell_at HUNX.out.ho 8
          have y8 := free_at HUNX.out.ho 8
          have hoX := HUNX.out.ho
          have hzw : ∀ q, zw.ownBlock = some q → q ≠ ob := fun q hq e => by have h1 := (HUNX.out.hw.blk q hq).1; have h2 := HOB5.out; omega
          have hobX : ob < w2.heap.size := lt_at hoX
          have HOX := hid hoX
          clear hoX
          go_upto_region 50 with (fail)
          go_region_law (first
            | (refine step_call2q (by rfl) 43 (enters_of Tryz.func43 (by kernel_rfl) rfl) (.tmp 251) (.tmp 252) _ (by rfl) _ _ (by rfl) (by rfl) _ (HVD.out _) ?_)
            | (refine step_one el_int (by rfl) (.tmp 250) (.tmp 254) (by rfl) w5.heap.size zw ws (by rfl) (by exact (HUNX.out.hw.drewN 1).alloc _) ⟨w2.heap.size, 0, none⟩ 1 3 (by rfl) (by exact new_cell _ _ _) (by rw [HWL.out]; have := HI8.out; omega) (by simp; omega) ?_; intro g6 cap6 w6 hown hgrow hat; have hst := (HUNX.out.below (((Below.refl w2.heap.size w2).drew).alloc (Nat.le_refl _) _)).word HOB5.out hown hgrow hat; have p8' := cell_at hst.1 8; have y8' := free_at hst.1 8; have HST := hid hst.2; have HGW := hid hgrow; have HATW := hid hat; clear hown hgrow hat hst)
            | fail)
          all_goals
            obtain ⟨w7, hw7⟩ : ∃ V, w6.setCell ⟨ob, 8, none⟩ (.slice (some ⟨g6, 0, none⟩) (ws.length + 1) cap6) = V := ⟨_, rfl⟩
            rw [hw7] at HST ⊢
            have hobw := HST.out.ho
            have hwB7 : w5.heap.size ≤ w7.heap.size := HST.out.gr.size
            have p9 := cell_at hobw 9
            have y9 := free_at hobw 9
            clear hw7 hobw p8 y8 p8' y8'
            go_wp2_with (at_builtin; refine app_one_row el_rows rfl _ _ rfl w5.heap.size _ zs rs (by rfl) (HST.out.hr.below ((Below.refl w7.heap.size w7).alloc (Nat.le_refl _) _)) w7.heap.size (.slice none 0 0) (by rfl) (by rw [new_cell]) [] (.inl ⟨rfl, rfl⟩) (by rw [HRL.out]; have := HI8.out; omega) (by simp; omega) ?_; intro g8 cap8 w8 hown hgrow hat; have hst := (HST.out.below ((Below.refl w7.heap.size w7).alloc (Nat.le_refl _) _)).sector HOB5.out hown hgrow hat; have p9' := cell_at hst.1 9; have y9' := free_at hst.1 9; have HSU := hid hst.2; clear hown hgrow hat hst)
            go_roundg (gk - 1)
            case measure => omega
            case rel =>
              refine ⟨I + 1, .slice (some ⟨g6, 0, none⟩) (ws.length + 1) cap6, .slice (some ⟨g8, 0, none⟩) (rs.length + 1) cap8, by omega, by go_num, ?_, ?_⟩
              · rw [HE1.out, HE2.out, HE3.out]
                exact HSU.out
              · rw [HE3.out]; have := HFB.out; omega
    · obtain rfl : N = I := by omega
      go_wp2_with fail
      refine HEX.out _ zw zs wr ⟨_, _, _, _, _, _, _, _, _, _, _, _, _, _, _, _, _, _, _, _, _, _, _, _, _, _, _, _, _, _, _, _, _, _, _, _, _, _, _, _, _, _, _, _, _, _, _, _, _, _, _, _, _, _, _, _, _, _, _, _, _, _, _, _, _, _, _, _, _, _, _, _, _, _, _, _, _, _, _, _, _, _, _, rfl⟩ ?_
      have h9 := HUN.out
      rw [← HF.out, ← HWS.out, ← HRS.out] at h9
      exact h9
end Go.Proofs.YtoanopegoilcnaaGreat
