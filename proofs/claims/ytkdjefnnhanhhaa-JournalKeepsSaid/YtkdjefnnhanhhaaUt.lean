/- Loops taken out of a function's text. -/
import Derived.Test.YtkdjefnnhanhhaaZLkq
import Derived.Test.YtkdjefnnhanhhaaProg
import Derived.Lib.Hide
import Derived.Outline
set_option linter.unusedVariables false
namespace Go.Mem
/-- The number of the region that stands first. -/
def regOne : Code → Option Nat
  | .region i _ _ => some i
  | .seq a b => match regOne a with
    | some c => some c
    | none => regOne b
  | .block _ c => regOne c
  | .scope c => regOne c
  | .loop c => regOne c
  | _ => none
/-- The loop whose body begins with region k. -/
def loopOf (k : Nat) : Code → Option Code
  | .loop c => if regOne c = some k then some c else loopOf k c
  | .seq a b => match loopOf k a with
    | some c => some c
    | none => loopOf k b
  | .block _ c => loopOf k c
  | .scope c => loopOf k c
  | .cond _ a b => match loopOf k a with
    | some c => some c
    | none => loopOf k b
  | _ => none
end Go.Mem
/- Walks over the journal's laws: JournalKeeps: the calls of a round, until the power fails. -/
namespace Go.Proofs.Ytkdjefnnhanhhaa
open Go Go.RowKit Go.Mem Go.Jn
set_option linter.unusedVariables false

noncomputable def lpKeeps : Code := (Try.f7.body.bind (loopOf 22)).getD .skip
set_option maxRecDepth 1000000 in
set_option maxHeartbeats 12800000 in
theorem keeps_inner (I mb J T nb sz n0 : Nat) (sp : Option Addr) (len cap : Nat) (l : List HOp) (w W7 : World) (Q0 : Nat → Prop) (s0 : JS) (Ms0 : List MM) (pv sv0 : Value) (zs : List Int) (Qp : Exit → Act → World → Prop) (c0 c1 c3 c4 c5 c6 c7 c8 c9 c10 c11 c12 c13 c14 c17 c19 c20 c23 c24 c25 c26 c27 c28 c29 c30 c31 c32 c33 c34 c35 c36 c37 c38 c39 c40 c41 c42 c43 c44 c45 c46 c47 c48 c49 c50 c51 c52 c53 c54 c55 c56 c57 c58 c59 c60 c61 c62 c63 c64 c65 c66 c67 c68 c69 c70 c71 c72 c73 c74 c75 c76 c77 c78 c79 c80 c81 c82 c83 c84 c85 c86 c87 c88 c89 c90 c91 c92 c93 c94 c95 c96 c97 c98 c99 c100 c101 c102 c103 c104 c105 c106 c107 c108 c109 c110 c111 c112 c113 c114 c115 c116 c117 c118 c119 c120 c121 c122 c123 c124 c125 c126 c127 c128 c129 c130 c131 c132 c133 c134 c135 c136 c137 c138 c139 c140 c141 c142 c143 c144 c145 c146 c147 c148 c149 c150 c151 c152 c153 c154 c155 c156 c157 c158 c159 c160 c161 c162 c163 c164 c165 c166 c167 c168 c169 c170 c171 c172 c173 c174 c175 c176 c177 c178 c179 c180 c181 c182 c183 c184 c185 c186 c187 c188 c189 c190 c191 c192 c193 c194 c195 c196 c197 c198 c199 : Value)
    (hor : OpR w sp len cap l) (hI : I ≤ 300) (hn : n0 ≤ 900000) (hK : Kr w W7 Q0 J T mb s0 Ms0 0 sv0 pv zs nb sz n0) (hml : Ms0.length = 1)
    (hexit : ∀ (a : Act) (I2 d : Nat) (Q2 : Nat → Prop) (t2 : Tp) (Ms : List MM) (sv iv dv : Value) (wr : World), (∃ u12 u23 u24 u97 u98 u99 u100 u101 u102 u103 u104 u105 u106 u107 u108 u109 u110 u111 u112 u113 u114 u115 u116 u117 u118 u119 u120 u121 u122 u123 u124 u125 u126 u127 u128 u129 u130 u131 u132 u133 u134 u135 u136 u137 u138 u139 u140 u141 u142 u143 u144 u145 : Value, a = ⟨List.toArray (c0 :: c1 :: (.slice sp len cap) :: c3 :: c4 :: c5 :: c6 :: c7 :: c8 :: c9 :: c10 :: c11 :: (u12) :: c13 :: c14 :: (.map (some mb)) :: (iv) :: c17 :: (.pointer (some ⟨J, 0, none⟩)) :: c19 :: c20 :: (sv) :: (dv) :: (u23) :: (u24) :: c25 :: c26 :: c27 :: c28 :: c29 :: c30 :: c31 :: c32 :: c33 :: c34 :: c35 :: c36 :: c37 :: c38 :: c39 :: c40 :: c41 :: c42 :: c43 :: c44 :: c45 :: c46 :: c47 :: c48 :: c49 :: c50 :: c51 :: c52 :: c53 :: c54 :: c55 :: c56 :: c57 :: c58 :: c59 :: c60 :: c61 :: c62 :: c63 :: c64 :: c65 :: c66 :: c67 :: c68 :: c69 :: c70 :: c71 :: c72 :: c73 :: c74 :: c75 :: c76 :: c77 :: c78 :: c79 :: c80 :: c81 :: c82 :: c83 :: c84 :: c85 :: c86 :: c87 :: c88 :: c89 :: c90 :: c91 :: c92 :: c93 :: c94 :: c95 :: c96 :: (u97) :: (u98) :: (u99) :: (u100) :: (u101) :: (u102) :: (u103) :: (u104) :: (u105) :: (u106) :: (u107) :: (u108) :: (u109) :: (u110) :: (u111) :: (u112) :: (u113) :: (u114) :: (u115) :: (u116) :: (u117) :: (u118) :: (u119) :: (u120) :: (u121) :: (u122) :: (u123) :: (u124) :: (u125) :: (u126) :: (u127) :: (u128) :: (u129) :: (u130) :: (u131) :: (u132) :: (u133) :: (u134) :: (u135) :: (u136) :: (u137) :: (u138) :: (u139) :: (u140) :: (u141) :: (u142) :: (u143) :: (u144) :: (u145) :: c146 :: c147 :: c148 :: c149 :: c150 :: c151 :: c152 :: c153 :: c154 :: c155 :: c156 :: c157 :: c158 :: c159 :: c160 :: c161 :: c162 :: c163 :: c164 :: c165 :: c166 :: c167 :: c168 :: c169 :: c170 :: c171 :: c172 :: c173 :: c174 :: c175 :: c176 :: c177 :: c178 :: c179 :: c180 :: c181 :: c182 :: c183 :: c184 :: c185 :: c186 :: c187 :: c188 :: c189 :: c190 :: c191 :: c192 :: c193 :: c194 :: c195 :: c196 :: c197 :: c198 :: c199 :: []), []⟩) → iv = .int .i64 (I2 : Nat) → dv = .int .i64 (d : Nat) → I2 ≤ 300 → Kf w wr Q2 T mb t2 Ms d sv pv zs nb sz (n0 + 301) → Qp (.exit 2) a wr) :
    Code.wp Try.prog (Code.loop lpKeeps) (NoPanic Qp) ⟨List.toArray (c0 :: c1 :: (.slice sp len cap) :: c3 :: c4 :: c5 :: c6 :: c7 :: c8 :: c9 :: c10 :: c11 :: c12 :: c13 :: c14 :: (.map (some mb)) :: (.int .i64 (I : Nat)) :: c17 :: (.pointer (some ⟨J, 0, none⟩)) :: c19 :: c20 :: (sv0) :: (.int .i64 0) :: c23 :: c24 :: c25 :: c26 :: c27 :: c28 :: c29 :: c30 :: c31 :: c32 :: c33 :: c34 :: c35 :: c36 :: c37 :: c38 :: c39 :: c40 :: c41 :: c42 :: c43 :: c44 :: c45 :: c46 :: c47 :: c48 :: c49 :: c50 :: c51 :: c52 :: c53 :: c54 :: c55 :: c56 :: c57 :: c58 :: c59 :: c60 :: c61 :: c62 :: c63 :: c64 :: c65 :: c66 :: c67 :: c68 :: c69 :: c70 :: c71 :: c72 :: c73 :: c74 :: c75 :: c76 :: c77 :: c78 :: c79 :: c80 :: c81 :: c82 :: c83 :: c84 :: c85 :: c86 :: c87 :: c88 :: c89 :: c90 :: c91 :: c92 :: c93 :: c94 :: c95 :: c96 :: c97 :: c98 :: c99 :: c100 :: c101 :: c102 :: c103 :: c104 :: c105 :: c106 :: c107 :: c108 :: c109 :: c110 :: c111 :: c112 :: c113 :: c114 :: c115 :: c116 :: c117 :: c118 :: c119 :: c120 :: c121 :: c122 :: c123 :: c124 :: c125 :: c126 :: c127 :: c128 :: c129 :: c130 :: c131 :: c132 :: c133 :: c134 :: c135 :: c136 :: c137 :: c138 :: c139 :: c140 :: c141 :: c142 :: c143 :: c144 :: c145 :: c146 :: c147 :: c148 :: c149 :: c150 :: c151 :: c152 :: c153 :: c154 :: c155 :: c156 :: c157 :: c158 :: c159 :: c160 :: c161 :: c162 :: c163 :: c164 :: c165 :: c166 :: c167 :: c168 :: c169 :: c170 :: c171 :: c172 :: c173 :: c174 :: c175 :: c176 :: c177 :: c178 :: c179 :: c180 :: c181 :: c182 :: c183 :: c184 :: c185 :: c186 :: c187 :: c188 :: c189 :: c190 :: c191 :: c192 :: c193 :: c194 :: c195 :: c196 :: c197 :: c198 :: c199 :: []), []⟩ W7 := by
  conv => arg 2; arg 1; whnf
  have hmm := @run_makeMap Try.prog
  obtain ⟨ir, hir, hz0, hz1, hz2⟩ := info_parts info_map
  have hlenb : (len : Int) ≤ 9223372036854775807 := by have := hor.2.2.1; have := hor.2.1; unfold maxLen at *; omega
  have HOR := hid hor
  have HK0 := hid hK
  have HML0 := hid hml
  have HEX := hid hexit
  clear hor hK hml hexit
  go_loopg [21, 16, 22] (300 - I) (fun gk sv iv fv wr => ∃ (I2 d : Nat) (Q2 : Nat → Prop) (s2 : JS) (Ms : List MM) (s7 : Value), I2 + gk = 300 ∧ iv = .int .i64 (I2 : Nat) ∧ fv = .int .i64 (d : Nat) ∧ s7 = sv ∧ Ms.length ≤ I2 + 1 ∧ Kr w wr Q2 J T mb s2 Ms d s7 pv zs nb sz (n0 + I2))
  case atStart => exact ⟨I, 0, _, _, _, _, by omega, rfl, rfl, rfl, by have := HML0.out; omega, HK0.out.more (by omega)⟩
  case round =>
    obtain ⟨I2, d, Q2, s2, Ms, sv, hI2, rfl, rfl, rfl, hML, hK2⟩ := hrel
    obtain ⟨sa7, sc7, rfl, sl1, sl2⟩ := hK2.ss.form
    have hd := hK2.rn.d
    have HK2 := hid hK2
    clear hK2 HK0
    by_cases hl2 : I2 < len ∧ I2 < 300
    · have i3 : (I2 : Int) < (len : Int) := by omega
      have i4 : (I2 : Int) < 300 := by omega
      obtain ⟨ll, _, _, hfit, hcell⟩ := HOR.out.below HK2.out.b
      obtain ⟨g9, o9, e8, c1, c2, c3⟩ := hcell I2 hl2.1
      subst e8
      have hg9 : g9 < w.heap.size := by
        obtain ⟨_, _, _, _, hc⟩ := HOR.out
        obtain ⟨g8, o8, e7, d1, _, _⟩ := hc I2 hl2.1
        cases e7
        exact World.block_lt_of_cell? _ _ d1
      obtain ⟨o, hoe⟩ : ∃ o, l.getD I2 HOp.zero = o := ⟨_, rfl⟩
      have hof : o.Fit := by rw [← hoe]; exact hfit _ (mem_getD' _ _ (by omega))
      rw [hoe] at c1 c2 c3
      have hrm : s2.t.room ≤ 7000 := by
        obtain ⟨A, k, hi, hk⟩ := HK2.out.rn.inv
        have := room_le hi.tok
        omega
      obtain ⟨most, hmost⟩ : ∃ n, s2.t.room = n := ⟨_, rfl⟩
      obtain ⟨kk, hkk⟩ : ∃ k, most + 2 = k := ⟨_, rfl⟩
      have z1 : IntKind.i64.wrap ((most : Int) + 2) = (kk : Int) := by rw [IntWalk.i64_in _ ⟨by omega, by omega⟩]; omega
      have z2 : IntKind.i64.wrap ((I2 : Int) + 1) = (I2 : Int) + 1 := IntWalk.i64_in _ ⟨by omega, by omega⟩
      obtain ⟨nM, hnM⟩ : ∃ n, Ms.length = n := ⟨_, rfl⟩
      have z3 : IntKind.i64.wrap ((nM : Int) - 1) = ((nM - 1 : Nat) : Int) := by rw [IntWalk.i64_in _ ⟨by omega, by omega⟩]; omega
      have HRO := hid (fun (W : World) (hb : Below wr.heap.size wr W) => by
        have := (HK2.out.below hb).room
        rw [hmost] at this
        exact this)
      have HDO := hid (fun (W : World) (hb : Below wr.heap.size wr W) => (HK2.out.below hb).step (by omega) o hof kk (by omega))
      rw [hnM] at HDO
      have AK := hid (labs_any o.kind · hof.1)
      obtain ⟨kn, hkn⟩ : ∃ n, absN' o.kind = n := ⟨_, rfl⟩
      rw [hkn] at AK
      obtain ⟨k6, hk6⟩ : ∃ n, kn % 6 = n := ⟨_, rfl⟩
      have hdk : doK o = k6 := by unfold doK; rw [hkn, hk6]
      have n1 : (kn : Int).tmod 6 = (k6 : Int) := by rw [← hk6]; rfl
      have n2 : (kn : Int) % 6 = (k6 : Int) := by omega
      have hdk6 : k6 < 6 := by omega
      have HDK := hid hdk
      have HOF := hid hof
      have HNM := hid hnM
      rw [hnM]
      rw [hnM] at hML sl1 hd
      clear hoe hkk hcell hfit hkn hk6 hmost hdk hof hrm hnM
      go_wp2_with fail
      go_region_held3 (fun w' => w'.cell? ⟨g9, o9 + I2 * 3, none⟩ = some (.int .i64 o.kind) ∧ w'.cell? ⟨g9, o9 + I2 * 3 + 1, none⟩ = some (.int .i64 o.sector) ∧ w'.cell? ⟨g9, o9 + I2 * 3 + 2, none⟩ = some (.int .u64 (o.value : Nat)))
        (first | exact ⟨c1, c2, c3⟩ | exact ⟨k1, k2, k3⟩)
        (first
        | (go_at_call 13; refine (HRO.out _ (by first | exact Below.refl _ _ | exact (Below.refl _ _).drewN _ | exact (Below.refl _ _).drew)).mono ?_; rintro e w5 ⟨rfl, nd5, rfl⟩)
        | (go_at_call 18; refine (HDO.out _ (by first | exact Below.refl _ _ | exact (Below.refl _ _).drewN _ | exact (Below.refl _ _).drew | exact ((Below.refl _ _).drewN _).drewN _)).mono ?_; rintro e w6 ⟨cd, s6, M6, rfl, hF6, hout, hfl⟩; have kb := hF6.block g9 (Nat.lt_of_lt_of_le hg9 HK2.out.b.size) (fun h => by have h' : w.heap.size ≤ g9 := h; omega); have k1 := (World.cell?_of_block (a := ⟨g9, o9 + I2 * 3, none⟩) kb).trans c1; have k2 := (World.cell?_of_block (a := ⟨g9, o9 + I2 * 3 + 1, none⟩) kb).trans c2; have k3 := (World.cell?_of_block (a := ⟨g9, o9 + I2 * 3 + 2, none⟩) kb).trans c3; clear kb)
        | fail)
      clear hF6 c1 c2 c3 k2 k3 HRO HDO
      rcases hout with ⟨hc, hK⟩ | ⟨h5, rfl, hK⟩ | ⟨h5, rfl, hK⟩ | ⟨h5, rfl, hG, hm, hR⟩ | ⟨h5, rfl, hG, hF⟩
      · have HK6 := hid hK
        clear hK HK2
        rcases hc with rfl | rfl
        all_goals (
          by_cases h5 : k6 = 5
          all_goals (
            go_wp2_with fail
            refine (AK.out _).mono ?_
            rintro e w8 ⟨rfl, rfl⟩
            go_wp2_with fail
            go_roundg (gk - 1)
            case measure => omega
            case rel => exact ⟨I2 + 1, d, _, _, Ms, _, by omega, by go_num, rfl, rfl, by have := HNM.out; omega, HK6.out.more (by omega)⟩))
      · have h6 : k6 = 5 := by rw [← HDK.out]; exact h5
        have HK6 := hid hK
        clear hK HK2 h5 HDK
        subst h6
        go_wp2_with fail
        refine (AK.out _).mono ?_
        rintro e w8 ⟨rfl, rfl⟩
        go_wp2_with fail
        go_roundg (gk - 1)
        case measure => omega
        case rel => exact ⟨I2 + 1, nM - 1, _, _, Ms, _, by omega, by go_num, rfl, rfl, by have := HNM.out; omega, HK6.out.more (by omega)⟩
      · have h6 : k6 = 5 := by rw [← HDK.out]; exact h5
        have HK6 := hid hK
        clear hK HK2 h5 HDK
        subst h6
        go_wp2_with fail
        refine (AK.out _).mono ?_
        rintro e w8 ⟨rfl, rfl⟩
        go_wp2_with fail
        exact HEX.out _ (I2 + 1) d _ _ Ms _ _ _ _ ⟨_, _, _, _, _, _, _, _, _, _, _, _, _, _, _, _, _, _, _, _, _, _, _, _, _, _, _, _, _, _, _, _, _, _, _, _, _, _, _, _, _, _, _, _, _, _, _, _, _, _, _, _, rfl⟩ (by go_num) rfl (by omega) (HK6.out.more (by omega))
      · have h6 : ¬ k6 = 5 := by rw [← HDK.out]; exact h5
        have h7 : ((k6 : Int) == 5) = false := beq_eq_false_iff_ne.2 (by omega)
        have HCO := hid (copied_any hG.m hfl)
        have HG := hid hG
        have HR := hid hR
        have HMM := hid hm
        clear hR hm
        clear hG h5 HDK HK2 hfl
        go_wp2_with fail
        refine (AK.out _).mono ?_
        rintro e w8 ⟨rfl, rfl⟩
        go_wp2_with fail
        refine HCO.out.mono ?_
        rintro e w8 ⟨rfl, hM8, hb8⟩
        obtain ⟨vs8, hv8⟩ := (HG.out.ss.below hb8).own
        rw [HNM.out] at hv8
        have HV8 := hid hv8
        have HM8 := hid hM8
        have HB8 := hid hb8
        clear hM8 hb8 hv8 HCO
        go_wp2_with (at_builtin; refine wpList_append_lies _ rfl _ _ 57 rfl 0 44 ir (.map none) 1 8 Try.underlying57 hir hz0 hz1 hz2 rfl (by decide) _ nM _ rfl (World.ownsRow.alloc HV8.out _) ⟨w8.heap.size, 0, none⟩ 1 1 [.map (some w6.heap.size)] rfl rfl (cell_one_new _ _ _) (fun u hu => by simp at hu; subst hu; rfl) (by decide) (by unfold maxLen; omega) (by omega) (Nat.zero_le _) _ rfl ?_; intro g9 cap9 w9 hown hgrow hat hlt9)
        have HGG := hid (HG.out.grow (cap8 := cap9) rfl (HM8.out.alloc _) (HB8.out.alloc HB8.out.size _) hgrow hat hlt9 (fun vs hv => by rw [HNM.out] at hv ⊢; rw [orow_uniq hv (World.ownsRow.alloc HV8.out _)]; exact hown))
        clear hown hgrow hat hlt9 HV8 HM8 HB8 HG
        go_wp2_with fail
        go_roundg (gk - 1)
        case measure => omega
        case rel => exact ⟨I2 + 1, d, _, _, Ms ++ [M6], _, by omega, by go_num, rfl, by rw [HNM.out], by rw [List.length_append, HNM.out]; simp; omega, HGG.out.kr HMM.out (HR.out.more (by omega))⟩
      · have h6 : ¬ k6 = 5 := by rw [← HDK.out]; exact h5
        have h7 : ((k6 : Int) == 5) = false := beq_eq_false_iff_ne.2 (by omega)
        have HCO := hid (copied_any hG.m hfl)
        have HG := hid hG
        have HF := hid hF
        clear hF
        clear hG h5 HDK HK2 hfl
        go_wp2_with fail
        refine (AK.out _).mono ?_
        rintro e w8 ⟨rfl, rfl⟩
        go_wp2_with fail
        refine HCO.out.mono ?_
        rintro e w8 ⟨rfl, hM8, hb8⟩
        obtain ⟨vs8, hv8⟩ := (HG.out.ss.below hb8).own
        rw [HNM.out] at hv8
        have HV8 := hid hv8
        have HM8 := hid hM8
        have HB8 := hid hb8
        clear hM8 hb8 hv8 HCO
        go_wp2_with (at_builtin; refine wpList_append_lies _ rfl _ _ 57 rfl 0 44 ir (.map none) 1 8 Try.underlying57 hir hz0 hz1 hz2 rfl (by decide) _ nM _ rfl (World.ownsRow.alloc HV8.out _) ⟨w8.heap.size, 0, none⟩ 1 1 [.map (some w6.heap.size)] rfl rfl (cell_one_new _ _ _) (fun u hu => by simp at hu; subst hu; rfl) (by decide) (by unfold maxLen; omega) (by omega) (Nat.zero_le _) _ rfl ?_; intro g9 cap9 w9 hown hgrow hat hlt9)
        have HGG := hid (HG.out.grow (cap8 := cap9) rfl (HM8.out.alloc _) (HB8.out.alloc HB8.out.size _) hgrow hat hlt9 (fun vs hv => by rw [HNM.out] at hv ⊢; rw [orow_uniq hv (World.ownsRow.alloc HV8.out _)]; exact hown))
        clear hown hgrow hat hlt9 HV8 HM8 HB8 HG
        go_wp2_with fail
        have hkf := (HGG.out.kf HF.out).more (m := n0 + 301) (by omega)
        rw [HNM.out] at hkf
        exact HEX.out _ (I2 + 1) d _ _ (Ms ++ [M6]) _ _ _ _ ⟨_, _, _, _, _, _, _, _, _, _, _, _, _, _, _, _, _, _, _, _, _, _, _, _, _, _, _, _, _, _, _, _, _, _, _, _, _, _, _, _, _, _, _, _, _, _, _, _, _, _, _, _, rfl⟩ (by go_num) rfl (by omega) hkf
    · have hh : (¬ (I2 : Int) < (len : Int)) ∨ ((I2 : Int) < (len : Int) ∧ ¬ (I2 : Int) < 300) := by omega
      rcases hh with hh | ⟨hh, hh3⟩
      all_goals (
        go_wp2_with fail
        exact HEX.out _ I2 d _ _ Ms _ _ _ _ ⟨_, _, _, _, _, _, _, _, _, _, _, _, _, _, _, _, _, _, _, _, _, _, _, _, _, _, _, _, _, _, _, _, _, _, _, _, _, _, _, _, _, _, _, _, _, _, _, _, _, _, _, _, rfl⟩ rfl rfl (by omega) (HK2.out.kf.more (by omega)))
end Go.Proofs.Ytkdjefnnhanhhaa
/- Walks over the journal's laws: JournalKeeps: what was found is looked for among the states. -/
namespace Go.Proofs.Ytkdjefnnhanhhaa
open Go Go.RowKit Go.Mem Go.Jn
set_option linter.unusedVariables false

noncomputable def lpSearch : Code := (Try.f7.body.bind (loopOf 40)).getD .skip
set_option maxRecDepth 1000000 in
set_option maxHeartbeats 12800000 in
theorem keeps_search (d J T mb nb sz n0 : Nat) (w W7 : World) (Q0 : Nat → Prop) (s : JS) (Ms : List MM) (v15 pv sv : Value) (zs : List Int) (Qp : Exit → Act → World → Prop) (c0 c1 c2 c3 c4 c5 c6 c7 c8 c9 c10 c11 c12 c13 c14 c16 c17 c18 c19 c20 c22 c23 c24 c26 c29 c30 c31 c32 c33 c34 c35 c36 c37 c38 c39 c40 c41 c42 c43 c44 c45 c46 c47 c48 c49 c50 c51 c52 c53 c54 c55 c56 c57 c58 c59 c60 c61 c62 c63 c64 c65 c66 c67 c68 c69 c70 c71 c72 c73 c74 c75 c76 c77 c78 c79 c80 c81 c82 c83 c84 c85 c86 c87 c88 c89 c90 c91 c92 c93 c94 c95 c96 c97 c98 c99 c100 c101 c102 c103 c104 c105 c106 c107 c108 c109 c110 c111 c112 c113 c114 c115 c116 c117 c118 c119 c120 c121 c122 c123 c124 c125 c126 c127 c128 c129 c130 c131 c132 c133 c134 c135 c136 c137 c138 c139 c140 c141 c142 c143 c144 c145 c146 c147 c148 c149 c150 c151 c152 c153 c154 c155 c156 c157 c158 c159 c160 c161 c162 c163 c164 c165 c166 c167 c168 c169 c170 c171 c172 c173 c174 c175 c176 c177 c178 c179 c180 c181 c182 c183 c184 c185 c186 c187 c188 c189 c190 c191 c192 c193 c194 c195 c196 c197 c198 c199 : Value)
    (hK : Kh w W7 Q0 J T mb s Ms d sv pv zs nb sz n0)
    (hexit : ∀ (a : Act) (mb2 : Nat) (Q2 : Nat → Prop) (iv : Value) (wr : World), (∃ u162 u163 u164 u165 u166 u167 u168 u169 u170 u171 u172 u173 u174 u175 u176 u177 u178 u179 u180 u181 u182 u183 : Value, a = ⟨List.toArray (c0 :: c1 :: c2 :: c3 :: c4 :: c5 :: c6 :: c7 :: c8 :: c9 :: c10 :: c11 :: c12 :: c13 :: c14 :: (.map (some mb2)) :: c16 :: c17 :: c18 :: c19 :: c20 :: (sv) :: c22 :: c23 :: c24 :: (.pointer (some ⟨J, 0, none⟩)) :: c26 :: (.bool true) :: (iv) :: c29 :: c30 :: c31 :: c32 :: c33 :: c34 :: c35 :: c36 :: c37 :: c38 :: c39 :: c40 :: c41 :: c42 :: c43 :: c44 :: c45 :: c46 :: c47 :: c48 :: c49 :: c50 :: c51 :: c52 :: c53 :: c54 :: c55 :: c56 :: c57 :: c58 :: c59 :: c60 :: c61 :: c62 :: c63 :: c64 :: c65 :: c66 :: c67 :: c68 :: c69 :: c70 :: c71 :: c72 :: c73 :: c74 :: c75 :: c76 :: c77 :: c78 :: c79 :: c80 :: c81 :: c82 :: c83 :: c84 :: c85 :: c86 :: c87 :: c88 :: c89 :: c90 :: c91 :: c92 :: c93 :: c94 :: c95 :: c96 :: c97 :: c98 :: c99 :: c100 :: c101 :: c102 :: c103 :: c104 :: c105 :: c106 :: c107 :: c108 :: c109 :: c110 :: c111 :: c112 :: c113 :: c114 :: c115 :: c116 :: c117 :: c118 :: c119 :: c120 :: c121 :: c122 :: c123 :: c124 :: c125 :: c126 :: c127 :: c128 :: c129 :: c130 :: c131 :: c132 :: c133 :: c134 :: c135 :: c136 :: c137 :: c138 :: c139 :: c140 :: c141 :: c142 :: c143 :: c144 :: c145 :: c146 :: c147 :: c148 :: c149 :: c150 :: c151 :: c152 :: c153 :: c154 :: c155 :: c156 :: c157 :: c158 :: c159 :: c160 :: c161 :: (u162) :: (u163) :: (u164) :: (u165) :: (u166) :: (u167) :: (u168) :: (u169) :: (u170) :: (u171) :: (u172) :: (u173) :: (u174) :: (u175) :: (u176) :: (u177) :: (u178) :: (u179) :: (u180) :: (u181) :: (u182) :: (u183) :: c184 :: c185 :: c186 :: c187 :: c188 :: c189 :: c190 :: c191 :: c192 :: c193 :: c194 :: c195 :: c196 :: c197 :: c198 :: c199 :: []), []⟩) → Kq w wr Q2 T mb2 s.t s.j.m pv zs nb sz n0 → Qp (.exit 4) a wr) :
    Code.wp Try.prog (Code.loop lpSearch) (NoPanic Qp) ⟨List.toArray (c0 :: c1 :: c2 :: c3 :: c4 :: c5 :: c6 :: c7 :: c8 :: c9 :: c10 :: c11 :: c12 :: c13 :: c14 :: (v15) :: c16 :: c17 :: c18 :: c19 :: c20 :: (sv) :: c22 :: c23 :: c24 :: (.pointer (some ⟨J, 0, none⟩)) :: c26 :: (.bool false) :: (.int .i64 (d : Nat)) :: c29 :: c30 :: c31 :: c32 :: c33 :: c34 :: c35 :: c36 :: c37 :: c38 :: c39 :: c40 :: c41 :: c42 :: c43 :: c44 :: c45 :: c46 :: c47 :: c48 :: c49 :: c50 :: c51 :: c52 :: c53 :: c54 :: c55 :: c56 :: c57 :: c58 :: c59 :: c60 :: c61 :: c62 :: c63 :: c64 :: c65 :: c66 :: c67 :: c68 :: c69 :: c70 :: c71 :: c72 :: c73 :: c74 :: c75 :: c76 :: c77 :: c78 :: c79 :: c80 :: c81 :: c82 :: c83 :: c84 :: c85 :: c86 :: c87 :: c88 :: c89 :: c90 :: c91 :: c92 :: c93 :: c94 :: c95 :: c96 :: c97 :: c98 :: c99 :: c100 :: c101 :: c102 :: c103 :: c104 :: c105 :: c106 :: c107 :: c108 :: c109 :: c110 :: c111 :: c112 :: c113 :: c114 :: c115 :: c116 :: c117 :: c118 :: c119 :: c120 :: c121 :: c122 :: c123 :: c124 :: c125 :: c126 :: c127 :: c128 :: c129 :: c130 :: c131 :: c132 :: c133 :: c134 :: c135 :: c136 :: c137 :: c138 :: c139 :: c140 :: c141 :: c142 :: c143 :: c144 :: c145 :: c146 :: c147 :: c148 :: c149 :: c150 :: c151 :: c152 :: c153 :: c154 :: c155 :: c156 :: c157 :: c158 :: c159 :: c160 :: c161 :: c162 :: c163 :: c164 :: c165 :: c166 :: c167 :: c168 :: c169 :: c170 :: c171 :: c172 :: c173 :: c174 :: c175 :: c176 :: c177 :: c178 :: c179 :: c180 :: c181 :: c182 :: c183 :: c184 :: c185 :: c186 :: c187 :: c188 :: c189 :: c190 :: c191 :: c192 :: c193 :: c194 :: c195 :: c196 :: c197 :: c198 :: c199 :: []), []⟩ W7 := by
  conv => arg 2; arg 1; whnf
  have hmm := @run_makeMap Try.prog
  obtain ⟨sa, sc, hsv, sl1, sl2⟩ := hK.ss.form
  obtain ⟨nM, hnM⟩ : ∃ n, Ms.length = n := ⟨_, rfl⟩
  rw [hnM] at hsv sl1
  have hmem := hK.mem
  have hdl : d < nM := by
    have h1 := List.length_pos_of_mem hmem
    rw [List.length_drop, hnM] at h1
    omega
  have hnb : (nM : Int) ≤ 9223372036854775807 := by unfold maxLen at *; omega
  have HMEM := hid hmem
  have HNM := hid hnM
  have HK0 := hid hK
  have HEX := hid hexit
  clear hK hexit hmem hnM sl1 sl2
  subst hsv
  go_loopg [15, 27, 28] (nM + 1 - d) (fun gk mv fv iv wr => ∃ i : Nat, iv = .int .i64 (i : Nat) ∧ i ≤ nM ∧ ((fv = .bool false ∧ i + gk = nM + 1 ∧ d ≤ i ∧ (∀ j, d ≤ j → j < i → s.j.m ≠ Ms.getD j []) ∧ Kh w wr Q0 J T mb s Ms d (.slice sa nM sc) pv zs nb sz n0) ∨ (fv = .bool true ∧ ∃ (mb2 : Nat) (Q2 : Nat → Prop), mv = .map (some mb2) ∧ Kq w wr Q2 T mb2 s.t s.j.m pv zs nb sz n0)))
  case atStart => exact ⟨d, rfl, by omega, .inl ⟨rfl, by omega, Nat.le_refl _, fun j h1 h2 => by omega, HK0.out⟩⟩
  case round =>
    obtain ⟨i, rfl, hi, hh⟩ := hrel
    clear HK0
    rcases hh with ⟨rfl, hg, hdi, hne, hK⟩ | ⟨rfl, mb2, Q2, rfl, hK⟩
    · have hlt : i < nM := by
        rcases Nat.lt_or_ge i nM with h | h
        · exact h
        · exfalso
          have hm := HMEM.out
          rw [List.mem_drop_iff_getElem] at hm
          obtain ⟨k, hk, e⟩ := hm
          have hnn := HNM.out
          refine hne (d + k) (by omega) (by omega) ?_
          rw [← e, List.getD, List.getElem?_eq_getElem (by omega)]
          rfl
      have i1 : (i : Int) < (nM : Int) := by omega
      have z2 : IntKind.i64.wrap ((i : Int) + 1) = (i : Int) + 1 := IntWalk.i64_in _ ⟨by omega, by omega⟩
      obtain ⟨g, c, b, e1, e2, hM, hl, hho⟩ := hK.holds hdi (by rw [HNM.out]; exact hlt)
      simp only [Value.slice.injEq] at e1
      obtain ⟨rfl, e9, rfl⟩ := e1
      clear e9
      have HHO := hid hho
      have HM := hid hM
      have HL := hid hl
      have HK := hid hK
      have HNE := hid hne
      clear hho hM hl hK hne
      go_wp2_with fail
      refine (HHO.out _ (Below.refl _ _)).mono ?_
      rintro e w2 ⟨rfl, hb⟩
      have e3 := (hb.cell (World.block_lt_of_cell? _ _ e2)).trans e2
      have HB := hid hb
      clear hb e2 HHO
      by_cases hf : s.j.m = Ms.getD i []
      · have hdt : decide (s.j.m = Ms.getD i []) = true := decide_eq_true hf
        rw [hdt]
        have HCO := hid (copied_any (HM.out.below HB.out) HL.out)
        have HF := hid hf
        clear hf hdt
        go_wp2_with fail
        refine HCO.out.mono ?_
        rintro e w3 ⟨rfl, hM3, hb3⟩
        have HM3 := hid hM3
        have HB3 := hid hb3
        clear hM3 hb3 HCO e3
        go_wp2_with fail
        go_roundg (gk - 1)
        case measure => omega
        case rel => exact ⟨i + 1, by go_num, by omega, .inr ⟨rfl, _, _, rfl, (HK.out.below HB.out).take (by rw [HF.out]; exact HM3.out) HB3.out⟩⟩
      · have hdt : decide (s.j.m = Ms.getD i []) = false := decide_eq_false hf
        rw [hdt]
        have HF := hid hf
        clear hf hdt
        go_wp2_with fail
        go_roundg (gk - 1)
        case measure => omega
        case rel =>
          refine ⟨i + 1, by go_num, by omega, .inl ⟨rfl, by omega, by omega, fun j h1 h2 => ?_, HK.out.below HB.out⟩⟩
          rcases Nat.lt_or_ge j i with h | h
          · exact HNE.out j h1 h
          · obtain rfl : j = i := by omega
            exact HF.out
    · have HK := hid hK
      clear hK
      have hh : (i : Int) < (nM : Int) ∨ ¬ (i : Int) < (nM : Int) := by omega
      rcases hh with hh | hh
      all_goals (
        go_wp2_with fail
        exact HEX.out _ mb2 Q2 _ _ ⟨_, _, _, _, _, _, _, _, _, _, _, _, _, _, _, _, _, _, _, _, _, _, rfl⟩ HK.out)
end Go.Proofs.Ytkdjefnnhanhhaa
