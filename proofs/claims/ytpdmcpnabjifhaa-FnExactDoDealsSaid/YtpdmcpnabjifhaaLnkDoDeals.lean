/- Printed by a program of ours (ext.py). -/
import Derived.Test.YtpdmcpnabjifhaaLnkDoDealsx1
set_option linter.unusedVariables false
set_option linter.unusedSimpArgs false
set_option maxRecDepth 100000
set_option maxHeartbeats 2000000
namespace Go.Proofs.Ytpdmcpnabjifhaa
open Go Go.Ab
/-! ### loop.example/g01263/laws.FnExactDoDeals (f5) -/
def laws_FnExactDoDeals_c1_Q (a1 : Book) (a2 : List Deal) (r50 : Int) (r65 : Int) (r66 : List Int) (r67 : List Tally) (r102 : List Deal) (r124 : Int) (i901_1 : Nat) (i901_2 : Nat) (i901_3 : Nat) (i901_4 : Nat) (i901_5 : Nat) (i901_6 : Nat) (g : Bool) (q : Out) : Prop := q.1 = .nrm ∧ eget q.2.1 1 = .sl none (a2.map Deal.c) ∧ eget q.2.1 2 = .pt none [.int .i64 a1.Day, .sl none (a1.Cash.map (cI .i64)), .sl none (a1.Tallies.map Tally.c)] ∧ eget q.2.1 6 = .loc i901_1 1 0 0 ∧ eget q.2.1 7 = .int .i64 r50 ∧ eget q.2.1 8 = .loc i901_4 1 0 0 ∧ eget q.2.1 9 = .lsl i901_5 r102.length 0 r102.length ∧ eget q.2.1 10 = .loc i901_6 1 0 0 ∧ eget q.2.1 11 = .int .i64 r124 ∧ eget q.2.1 53 = .bool g ∧ q.2.2[i901_5]? = some (.live ⟨.grow, 65, 6, r102.map Deal.c⟩) ∧ q.2.2[i901_6]? = some (.live ⟨.box, 33, 3, [[.int .i64 0, .nils, .nils]]⟩) ∧ q.2.2[i901_1]? = some (.live ⟨.box, 33, 3, [[.int .i64 0, .nils, .nils]]⟩) ∧ q.2.2[i901_2]? = some (.live ⟨.grow, 2, 1, r66.map (cI .i64)⟩) ∧ q.2.2[(i901_2 + 1)]? = some (.live ⟨.grow, 75, 5, r67.map Tally.c⟩) ∧ q.2.2[i901_4]? = some (.live ⟨.box, 33, 3, [[.int .i64 r65, .lsl i901_2 r66.length 0 r66.length, .lsl (i901_2 + 1) r67.length 0 r67.length]]⟩)
def laws_FnExactDoDeals_c2_Q (a1 : Book) (a2 : List Deal) (r50 : Int) (i902_1 : Nat) (i902_2 : Nat) (g : Bool) (q : Out) : Prop := q.1 = .nrm ∧ eget q.2.1 1 = .sl none (a2.map Deal.c) ∧ eget q.2.1 2 = .pt none [.int .i64 a1.Day, .sl none (a1.Cash.map (cI .i64)), .sl none (a1.Tallies.map Tally.c)] ∧ eget q.2.1 6 = .loc i902_2 1 0 0 ∧ eget q.2.1 7 = .int .i64 r50 ∧ eget q.2.1 10 = .loc i902_1 1 0 0 ∧ eget q.2.1 82 = .bool g ∧ q.2.2[i902_1]? = some (.live ⟨.box, 33, 3, [[.int .i64 0, .nils, .nils]]⟩) ∧ q.2.2[i902_2]? = some (.live ⟨.box, 33, 3, [[.int .i64 0, .nils, .nils]]⟩)
def laws_FnExactDoDeals_c3_Q (r357 : Int) (i903_1 : Nat) (i903_2 : Nat) (i903_3 : Nat) (g : Bool) (q : Out) : Prop := q.1 = .nrm ∧ eget q.2.1 10 = .loc i903_1 1 0 0 ∧ eget q.2.1 13 = .int .i64 r357 ∧ eget q.2.1 110 = .bool g ∧ q.2.2[i903_1]? = some (.live ⟨.box, 33, 3, [[.int .i64 0, .nils, .nils]]⟩)
def laws_FnExactDoDeals_c4_Q (r357 : Int) (i904_1 : Nat) (i904_2 : Nat) (i904_3 : Nat) (g : Bool) (q : Out) : Prop := q.1 = .nrm ∧ eget q.2.1 10 = .loc i904_1 1 0 0 ∧ eget q.2.1 13 = .int .i64 r357 ∧ eget q.2.1 110 = .bool g ∧ q.2.2[i904_1]? = some (.live ⟨.box, 33, 3, [[.int .i64 0, .nils, .nils]]⟩)
def laws_FnExactDoDeals_c5_Q (a1 : Book) (a2 : List Deal) (r50 : Int) (r65 : Int) (r66 : List Int) (r67 : List Tally) (r102 : List Deal) (r599 : Int) (r600 : List Int) (r601 : List Tally) (i905_1 : Nat) (i905_2 : Nat) (i905_3 : Nat) (i905_4 : Nat) (i905_5 : Nat) (i905_6 : Nat) (i905_7 : Nat) (i905_8 : Nat) (g : Bool) (q : Out) : Prop := q.1 = .nrm ∧ eget q.2.1 1 = .sl none (a2.map Deal.c) ∧ eget q.2.1 2 = .pt none [.int .i64 a1.Day, .sl none (a1.Cash.map (cI .i64)), .sl none (a1.Tallies.map Tally.c)] ∧ eget q.2.1 6 = .loc i905_1 1 0 0 ∧ eget q.2.1 7 = .int .i64 r50 ∧ eget q.2.1 8 = .loc i905_4 1 0 0 ∧ eget q.2.1 9 = .lsl i905_5 r102.length 0 r102.length ∧ eget q.2.1 10 = .loc i905_8 1 0 0 ∧ eget q.2.1 11 = .int .i64 0 ∧ eget q.2.1 53 = .bool g ∧ q.2.2[i905_5]? = some (.live ⟨.grow, 65, 6, r102.map Deal.c⟩) ∧ q.2.2[i905_1]? = some (.live ⟨.box, 33, 3, [[.int .i64 0, .nils, .nils]]⟩) ∧ q.2.2[i905_6]? = some (.live ⟨.grow, 2, 1, r600.map (cI .i64)⟩) ∧ q.2.2[(i905_6 + 1)]? = some (.live ⟨.grow, 75, 5, r601.map Tally.c⟩) ∧ q.2.2[i905_8]? = some (.live ⟨.box, 33, 3, [[.int .i64 r599, .lsl i905_6 r600.length 0 r600.length, .lsl (i905_6 + 1) r601.length 0 r601.length]]⟩) ∧ q.2.2[i905_2]? = some (.live ⟨.grow, 2, 1, r66.map (cI .i64)⟩) ∧ q.2.2[(i905_2 + 1)]? = some (.live ⟨.grow, 75, 5, r67.map Tally.c⟩) ∧ q.2.2[i905_4]? = some (.live ⟨.box, 33, 3, [[.int .i64 r65, .lsl i905_2 r66.length 0 r66.length, .lsl (i905_2 + 1) r67.length 0 r67.length]]⟩)
def laws_FnExactDoDeals_c6_Q (a1 : Book) (a2 : List Deal) (r50 : Int) (r599 : Int) (r600 : List Int) (r601 : List Tally) (i906_1 : Nat) (i906_2 : Nat) (i906_3 : Nat) (i906_4 : Nat) (g : Bool) (q : Out) : Prop := q.1 = .nrm ∧ eget q.2.1 1 = .sl none (a2.map Deal.c) ∧ eget q.2.1 2 = .pt none [.int .i64 a1.Day, .sl none (a1.Cash.map (cI .i64)), .sl none (a1.Tallies.map Tally.c)] ∧ eget q.2.1 6 = .loc i906_1 1 0 0 ∧ eget q.2.1 7 = .int .i64 r50 ∧ eget q.2.1 10 = .loc i906_4 1 0 0 ∧ eget q.2.1 82 = .bool g ∧ q.2.2[i906_1]? = some (.live ⟨.box, 33, 3, [[.int .i64 0, .nils, .nils]]⟩) ∧ q.2.2[i906_2]? = some (.live ⟨.grow, 2, 1, r600.map (cI .i64)⟩) ∧ q.2.2[(i906_2 + 1)]? = some (.live ⟨.grow, 75, 5, r601.map Tally.c⟩) ∧ q.2.2[i906_4]? = some (.live ⟨.box, 33, 3, [[.int .i64 r599, .lsl i906_2 r600.length 0 r600.length, .lsl (i906_2 + 1) r601.length 0 r601.length]]⟩)
def laws_FnExactDoDeals_c7_Q (r599 : Int) (r600 : List Int) (r601 : List Tally) (r863 : Int) (r864 : List Int) (r865 : List Tally) (i907_1 : Nat) (i907_2 : Nat) (i907_3 : Nat) (i907_4 : Nat) (i907_5 : Nat) (g : Bool) (q : Out) : Prop := q.1 = .nrm ∧ eget q.2.1 10 = .loc i907_4 1 0 0 ∧ eget q.2.1 13 = .int .i64 r863 ∧ eget q.2.1 110 = .bool g ∧ q.2.2[i907_2]? = some (.live ⟨.grow, 2, 1, r864.map (cI .i64)⟩) ∧ q.2.2[(i907_2 + 1)]? = some (.live ⟨.grow, 75, 5, r865.map Tally.c⟩) ∧ q.2.2[i907_4]? = some (.live ⟨.box, 33, 3, [[.int .i64 r599, .lsl i907_2 r600.length 0 r600.length, .lsl (i907_2 + 1) r601.length 0 r601.length]]⟩)
def laws_FnExactDoDeals_c8_Q (r599 : Int) (r600 : List Int) (r601 : List Tally) (r863 : Int) (r864 : List Int) (r865 : List Tally) (i908_1 : Nat) (i908_2 : Nat) (i908_3 : Nat) (i908_4 : Nat) (i908_5 : Nat) (g : Bool) (q : Out) : Prop := q.1 = .nrm ∧ eget q.2.1 10 = .loc i908_4 1 0 0 ∧ eget q.2.1 13 = .int .i64 r863 ∧ eget q.2.1 110 = .bool g ∧ q.2.2[i908_2]? = some (.live ⟨.grow, 2, 1, r864.map (cI .i64)⟩) ∧ q.2.2[(i908_2 + 1)]? = some (.live ⟨.grow, 75, 5, r865.map Tally.c⟩) ∧ q.2.2[i908_4]? = some (.live ⟨.box, 33, 3, [[.int .i64 r599, .lsl i908_2 r600.length 0 r600.length, .lsl (i908_2 + 1) r601.length 0 r601.length]]⟩)
def laws_FnExactDoDeals_c9_Q (a1 : Book) (a2 : List Deal) (r1130 : Int) (r1131 : List Int) (r1132 : List Tally) (r1147 : Int) (r1148 : List Int) (r1149 : List Tally) (r1184 : List Deal) (r1206 : Int) (i909_1 : Nat) (i909_2 : Nat) (i909_3 : Nat) (i909_4 : Nat) (i909_5 : Nat) (i909_6 : Nat) (g : Bool) (q : Out) : Prop := q.1 = .nrm ∧ eget q.2.1 1 = .sl none (a2.map Deal.c) ∧ eget q.2.1 2 = .pt none [.int .i64 a1.Day, .sl none (a1.Cash.map (cI .i64)), .sl none (a1.Tallies.map Tally.c)] ∧ eget q.2.1 6 = .loc i909_1 1 0 0 ∧ eget q.2.1 7 = .int .i64 0 ∧ eget q.2.1 8 = .loc i909_4 1 0 0 ∧ eget q.2.1 9 = .lsl i909_5 r1184.length 0 r1184.length ∧ eget q.2.1 10 = .loc i909_6 1 0 0 ∧ eget q.2.1 11 = .int .i64 r1206 ∧ eget q.2.1 53 = .bool g ∧ q.2.2[i909_1]? = some (.live ⟨.box, 33, 3, [[.int .i64 r1130, .sl none (r1131.map (cI .i64)), .sl none (r1132.map Tally.c)]]⟩) ∧ q.2.2[i909_2]? = some (.live ⟨.grow, 2, 1, r1148.map (cI .i64)⟩) ∧ q.2.2[(i909_2 + 1)]? = some (.live ⟨.grow, 75, 5, r1149.map Tally.c⟩) ∧ q.2.2[i909_4]? = some (.live ⟨.box, 33, 3, [[.int .i64 r1147, .lsl i909_2 r1148.length 0 r1148.length, .lsl (i909_2 + 1) r1149.length 0 r1149.length]]⟩) ∧ q.2.2[i909_5]? = some (.live ⟨.grow, 65, 6, r1184.map Deal.c⟩) ∧ q.2.2[i909_6]? = some (.live ⟨.box, 33, 3, [[.int .i64 0, .nils, .nils]]⟩)
def laws_FnExactDoDeals_c10_Q (a1 : Book) (a2 : List Deal) (r1130 : Int) (r1131 : List Int) (r1132 : List Tally) (i910_1 : Nat) (i910_2 : Nat) (g : Bool) (q : Out) : Prop := q.1 = .nrm ∧ eget q.2.1 1 = .sl none (a2.map Deal.c) ∧ eget q.2.1 2 = .pt none [.int .i64 a1.Day, .sl none (a1.Cash.map (cI .i64)), .sl none (a1.Tallies.map Tally.c)] ∧ eget q.2.1 6 = .loc i910_1 1 0 0 ∧ eget q.2.1 7 = .int .i64 0 ∧ eget q.2.1 10 = .loc i910_2 1 0 0 ∧ eget q.2.1 82 = .bool g ∧ q.2.2[i910_1]? = some (.live ⟨.box, 33, 3, [[.int .i64 r1130, .sl none (r1131.map (cI .i64)), .sl none (r1132.map Tally.c)]]⟩) ∧ q.2.2[i910_2]? = some (.live ⟨.box, 33, 3, [[.int .i64 0, .nils, .nils]]⟩)
def laws_FnExactDoDeals_c11_Q (r1439 : Int) (i911_1 : Nat) (i911_2 : Nat) (i911_3 : Nat) (g : Bool) (q : Out) : Prop := q.1 = .nrm ∧ eget q.2.1 10 = .loc i911_2 1 0 0 ∧ eget q.2.1 13 = .int .i64 r1439 ∧ eget q.2.1 110 = .bool g ∧ q.2.2[i911_2]? = some (.live ⟨.box, 33, 3, [[.int .i64 0, .nils, .nils]]⟩)
def laws_FnExactDoDeals_c12_Q (r1439 : Int) (i912_1 : Nat) (i912_2 : Nat) (i912_3 : Nat) (g : Bool) (q : Out) : Prop := q.1 = .nrm ∧ eget q.2.1 10 = .loc i912_2 1 0 0 ∧ eget q.2.1 13 = .int .i64 r1439 ∧ eget q.2.1 110 = .bool g ∧ q.2.2[i912_2]? = some (.live ⟨.box, 33, 3, [[.int .i64 0, .nils, .nils]]⟩)
def laws_FnExactDoDeals_c13_Q (a1 : Book) (a2 : List Deal) (r1130 : Int) (r1131 : List Int) (r1132 : List Tally) (r1147 : Int) (r1148 : List Int) (r1149 : List Tally) (r1184 : List Deal) (r1681 : Int) (r1682 : List Int) (r1683 : List Tally) (i913_1 : Nat) (i913_2 : Nat) (i913_3 : Nat) (i913_4 : Nat) (i913_5 : Nat) (i913_6 : Nat) (i913_7 : Nat) (i913_8 : Nat) (g : Bool) (q : Out) : Prop := q.1 = .nrm ∧ eget q.2.1 1 = .sl none (a2.map Deal.c) ∧ eget q.2.1 2 = .pt none [.int .i64 a1.Day, .sl none (a1.Cash.map (cI .i64)), .sl none (a1.Tallies.map Tally.c)] ∧ eget q.2.1 6 = .loc i913_1 1 0 0 ∧ eget q.2.1 7 = .int .i64 0 ∧ eget q.2.1 8 = .loc i913_4 1 0 0 ∧ eget q.2.1 9 = .lsl i913_5 r1184.length 0 r1184.length ∧ eget q.2.1 10 = .loc i913_8 1 0 0 ∧ eget q.2.1 11 = .int .i64 0 ∧ eget q.2.1 53 = .bool g ∧ q.2.2[i913_1]? = some (.live ⟨.box, 33, 3, [[.int .i64 r1130, .sl none (r1131.map (cI .i64)), .sl none (r1132.map Tally.c)]]⟩) ∧ q.2.2[i913_2]? = some (.live ⟨.grow, 2, 1, r1148.map (cI .i64)⟩) ∧ q.2.2[(i913_2 + 1)]? = some (.live ⟨.grow, 75, 5, r1149.map Tally.c⟩) ∧ q.2.2[i913_4]? = some (.live ⟨.box, 33, 3, [[.int .i64 r1147, .lsl i913_2 r1148.length 0 r1148.length, .lsl (i913_2 + 1) r1149.length 0 r1149.length]]⟩) ∧ q.2.2[i913_5]? = some (.live ⟨.grow, 65, 6, r1184.map Deal.c⟩) ∧ q.2.2[i913_6]? = some (.live ⟨.grow, 2, 1, r1682.map (cI .i64)⟩) ∧ q.2.2[(i913_6 + 1)]? = some (.live ⟨.grow, 75, 5, r1683.map Tally.c⟩) ∧ q.2.2[i913_8]? = some (.live ⟨.box, 33, 3, [[.int .i64 r1681, .lsl i913_6 r1682.length 0 r1682.length, .lsl (i913_6 + 1) r1683.length 0 r1683.length]]⟩)
def laws_FnExactDoDeals_c14_Q (a1 : Book) (a2 : List Deal) (r1130 : Int) (r1131 : List Int) (r1132 : List Tally) (r1681 : Int) (r1682 : List Int) (r1683 : List Tally) (i914_1 : Nat) (i914_2 : Nat) (i914_3 : Nat) (i914_4 : Nat) (g : Bool) (q : Out) : Prop := q.1 = .nrm ∧ eget q.2.1 1 = .sl none (a2.map Deal.c) ∧ eget q.2.1 2 = .pt none [.int .i64 a1.Day, .sl none (a1.Cash.map (cI .i64)), .sl none (a1.Tallies.map Tally.c)] ∧ eget q.2.1 6 = .loc i914_1 1 0 0 ∧ eget q.2.1 7 = .int .i64 0 ∧ eget q.2.1 10 = .loc i914_4 1 0 0 ∧ eget q.2.1 82 = .bool g ∧ q.2.2[i914_1]? = some (.live ⟨.box, 33, 3, [[.int .i64 r1130, .sl none (r1131.map (cI .i64)), .sl none (r1132.map Tally.c)]]⟩) ∧ q.2.2[i914_2]? = some (.live ⟨.grow, 2, 1, r1682.map (cI .i64)⟩) ∧ q.2.2[(i914_2 + 1)]? = some (.live ⟨.grow, 75, 5, r1683.map Tally.c⟩) ∧ q.2.2[i914_4]? = some (.live ⟨.box, 33, 3, [[.int .i64 r1681, .lsl i914_2 r1682.length 0 r1682.length, .lsl (i914_2 + 1) r1683.length 0 r1683.length]]⟩)
def laws_FnExactDoDeals_c15_Q (r1681 : Int) (r1682 : List Int) (r1683 : List Tally) (r1945 : Int) (r1946 : List Int) (r1947 : List Tally) (i915_1 : Nat) (i915_2 : Nat) (i915_3 : Nat) (i915_4 : Nat) (i915_5 : Nat) (g : Bool) (q : Out) : Prop := q.1 = .nrm ∧ eget q.2.1 10 = .loc i915_4 1 0 0 ∧ eget q.2.1 13 = .int .i64 r1945 ∧ eget q.2.1 110 = .bool g ∧ q.2.2[i915_2]? = some (.live ⟨.grow, 2, 1, r1946.map (cI .i64)⟩) ∧ q.2.2[(i915_2 + 1)]? = some (.live ⟨.grow, 75, 5, r1947.map Tally.c⟩) ∧ q.2.2[i915_4]? = some (.live ⟨.box, 33, 3, [[.int .i64 r1681, .lsl i915_2 r1682.length 0 r1682.length, .lsl (i915_2 + 1) r1683.length 0 r1683.length]]⟩)
def laws_FnExactDoDeals_c16_Q (r1681 : Int) (r1682 : List Int) (r1683 : List Tally) (r1945 : Int) (r1946 : List Int) (r1947 : List Tally) (i916_1 : Nat) (i916_2 : Nat) (i916_3 : Nat) (i916_4 : Nat) (i916_5 : Nat) (g : Bool) (q : Out) : Prop := q.1 = .nrm ∧ eget q.2.1 10 = .loc i916_4 1 0 0 ∧ eget q.2.1 13 = .int .i64 r1945 ∧ eget q.2.1 110 = .bool g ∧ q.2.2[i916_2]? = some (.live ⟨.grow, 2, 1, r1946.map (cI .i64)⟩) ∧ q.2.2[(i916_2 + 1)]? = some (.live ⟨.grow, 75, 5, r1947.map Tally.c⟩) ∧ q.2.2[i916_4]? = some (.live ⟨.box, 33, 3, [[.int .i64 r1681, .lsl i916_2 r1682.length 0 r1682.length, .lsl (i916_2 + 1) r1683.length 0 r1683.length]]⟩)
noncomputable def laws_FnExactDoDeals (a1 : Book) (a2 : List Deal) : Option Bool :=
 (laws_szBook a1 1048576).bind fun r11 =>
 if (decide (r11 < 0)) = true then
  some true
 else
  (laws_szDealS a2 r11).bind fun r28 =>
  if (decide (r28 < 0)) = true then
   some true
  else
   (laws_toBook a1).bind fun (r44, r45, r46) =>
   (laws_toDealS a2).bind fun r48 =>
   (spec_DoDeals (Book.mk r44 r45 r46) r48).bind fun r => match r with
   | (.inl r50) =>
    (laws_toBook a1).bind fun (r65, r66, r67) =>
    (laws_toDealS a2).bind fun r102 =>
    (impl_DoDeals (Book.mk r65 r66 r67) r102).bind fun r => match r with
    | (.inl r124) =>
     ((laws_eqBook (Book.mk 0 ([] : List Int) ([] : List Tally)) (Book.mk 0 ([] : List Int) ([] : List Tally))).bind fun r165 =>
     if r165 = true then
      some (r124 != r50)
     else
      some true).bind fun y191 =>
     if y191 = true then
      some false
     else
      (laws_toBook a1).bind fun (r212, r213, r214) =>
      (laws_eqBook (Book.mk r65 r66 r67) (Book.mk r212 r213 r214)).bind fun r216 =>
      if r216 = true then
       (laws_toDealS a2).bind fun r230 =>
       (laws_eqDealS r102 r230).bind fun r232 =>
       if r232 = true then
        (laws_markBook_ll r65 r66 r67 1).bind fun (r257, r258, r259) =>
        (laws_markDealS_l r102 r257).bind fun (r285, r286) =>
        (if (decide (r285 < 0)) = true then
         some true
        else
         (laws_eqBook (Book.mk 0 ([] : List Int) ([] : List Tally)) (Book.mk 0 ([] : List Int) ([] : List Tally))).bind fun r315 =>
         if r315 = true then
          some (r124 != r50)
         else
          some true).bind fun y335 =>
        if y335 = true then
         some false
        else
         (laws_markBook_nn 0 1).bind fun r357 =>
         (laws_heldBook (Book.mk 0 ([] : List Int) ([] : List Tally)) 1).bind fun r382 =>
         if (decide (r382 < 0)) = true then
          some false
         else
          if (r382 != r357) = true then
           some false
          else
           (laws_toBook a1).bind fun (r420, r421, r422) =>
           (laws_toDealS a2).bind fun r424 =>
           (impl_DoDeals (Book.mk r420 r421 r422) r424).bind fun r => match r with
           | (.inl r426) =>
            ((laws_eqBook (Book.mk 0 ([] : List Int) ([] : List Tally)) (Book.mk 0 ([] : List Int) ([] : List Tally))).bind fun r449 =>
            if r449 = true then
             some (r426 != r50)
            else
             some true).bind fun y463 =>
            if y463 = true then
             some false
            else
             (laws_heldBook (Book.mk 0 ([] : List Int) ([] : List Tally)) 1).bind fun r478 =>
             if (decide (r478 < 0)) = true then
              some false
             else
              if (r478 != r357) = true then
               some false
              else
               some true
           | (.inr (r505, r506, r507)) =>
            ((laws_eqBook (Book.mk r505 r506 r507) (Book.mk 0 ([] : List Int) ([] : List Tally))).bind fun r530 =>
            if r530 = true then
             some (0 != r50)
            else
             some true).bind fun y544 =>
            if y544 = true then
             some false
            else
             (laws_heldBook (Book.mk 0 ([] : List Int) ([] : List Tally)) 1).bind fun r559 =>
             if (decide (r559 < 0)) = true then
              some false
             else
              if (r559 != r357) = true then
               some false
              else
               some true
       else
        some false
      else
       some false
    | (.inr (r599, r600, r601)) =>
     ((laws_eqBook (Book.mk r599 r600 r601) (Book.mk 0 ([] : List Int) ([] : List Tally))).bind fun r663 =>
     if r663 = true then
      some (0 != r50)
     else
      some true).bind fun y689 =>
     if y689 = true then
      some false
     else
      (laws_toBook a1).bind fun (r712, r713, r714) =>
      (laws_eqBook (Book.mk r65 r66 r67) (Book.mk r712 r713 r714)).bind fun r716 =>
      if r716 = true then
       (laws_toDealS a2).bind fun r730 =>
       (laws_eqDealS r102 r730).bind fun r732 =>
       if r732 = true then
        (laws_markBook_ll r65 r66 r67 1).bind fun (r757, r758, r759) =>
        (laws_markDealS_l r102 r757).bind fun (r787, r788) =>
        (if (decide (r787 < 0)) = true then
         some true
        else
         (laws_eqBook (Book.mk r599 r600 r601) (Book.mk 0 ([] : List Int) ([] : List Tally))).bind fun r819 =>
         if r819 = true then
          some (0 != r50)
         else
          some true).bind fun y839 =>
        if y839 = true then
         some false
        else
         (laws_markBook_ll r599 r600 r601 1).bind fun (r863, r864, r865) =>
         (laws_heldBook (Book.mk r599 r864 r865) 1).bind fun r896 =>
         if (decide (r896 < 0)) = true then
          some false
         else
          if (r896 != r863) = true then
           some false
          else
           (laws_toBook a1).bind fun (r934, r935, r936) =>
           (laws_toDealS a2).bind fun r938 =>
           (impl_DoDeals (Book.mk r934 r935 r936) r938).bind fun r => match r with
           | (.inl r940) =>
            ((laws_eqBook (Book.mk 0 ([] : List Int) ([] : List Tally)) (Book.mk 0 ([] : List Int) ([] : List Tally))).bind fun r969 =>
            if r969 = true then
             some (r940 != r50)
            else
             some true).bind fun y983 =>
            if y983 = true then
             some false
            else
             (laws_heldBook (Book.mk r599 r864 r865) 1).bind fun r1000 =>
             if (decide (r1000 < 0)) = true then
              some false
             else
              if (r1000 != r863) = true then
               some false
              else
               some true
           | (.inr (r1027, r1028, r1029)) =>
            ((laws_eqBook (Book.mk r1027 r1028 r1029) (Book.mk 0 ([] : List Int) ([] : List Tally))).bind fun r1058 =>
            if r1058 = true then
             some (0 != r50)
            else
             some true).bind fun y1072 =>
            if y1072 = true then
             some false
            else
             (laws_heldBook (Book.mk r599 r864 r865) 1).bind fun r1089 =>
             if (decide (r1089 < 0)) = true then
              some false
             else
              if (r1089 != r863) = true then
               some false
              else
               some true
       else
        some false
      else
       some false
   | (.inr (r1130, r1131, r1132)) =>
    (laws_toBook a1).bind fun (r1147, r1148, r1149) =>
    (laws_toDealS a2).bind fun r1184 =>
    (impl_DoDeals (Book.mk r1147 r1148 r1149) r1184).bind fun r => match r with
    | (.inl r1206) =>
     ((laws_eqBook (Book.mk 0 ([] : List Int) ([] : List Tally)) (Book.mk r1130 r1131 r1132)).bind fun r1247 =>
     if r1247 = true then
      some (r1206 != 0)
     else
      some true).bind fun y1273 =>
     if y1273 = true then
      some false
     else
      (laws_toBook a1).bind fun (r1294, r1295, r1296) =>
      (laws_eqBook (Book.mk r1147 r1148 r1149) (Book.mk r1294 r1295 r1296)).bind fun r1298 =>
      if r1298 = true then
       (laws_toDealS a2).bind fun r1312 =>
       (laws_eqDealS r1184 r1312).bind fun r1314 =>
       if r1314 = true then
        (laws_markBook_ll r1147 r1148 r1149 1).bind fun (r1339, r1340, r1341) =>
        (laws_markDealS_l r1184 r1339).bind fun (r1367, r1368) =>
        (if (decide (r1367 < 0)) = true then
         some true
        else
         (laws_eqBook (Book.mk 0 ([] : List Int) ([] : List Tally)) (Book.mk r1130 r1131 r1132)).bind fun r1397 =>
         if r1397 = true then
          some (r1206 != 0)
         else
          some true).bind fun y1417 =>
        if y1417 = true then
         some false
        else
         (laws_markBook_nn 0 1).bind fun r1439 =>
         (laws_heldBook (Book.mk 0 ([] : List Int) ([] : List Tally)) 1).bind fun r1464 =>
         if (decide (r1464 < 0)) = true then
          some false
         else
          if (r1464 != r1439) = true then
           some false
          else
           (laws_toBook a1).bind fun (r1502, r1503, r1504) =>
           (laws_toDealS a2).bind fun r1506 =>
           (impl_DoDeals (Book.mk r1502 r1503 r1504) r1506).bind fun r => match r with
           | (.inl r1508) =>
            ((laws_eqBook (Book.mk 0 ([] : List Int) ([] : List Tally)) (Book.mk r1130 r1131 r1132)).bind fun r1531 =>
            if r1531 = true then
             some (r1508 != 0)
            else
             some true).bind fun y1545 =>
            if y1545 = true then
             some false
            else
             (laws_heldBook (Book.mk 0 ([] : List Int) ([] : List Tally)) 1).bind fun r1560 =>
             if (decide (r1560 < 0)) = true then
              some false
             else
              if (r1560 != r1439) = true then
               some false
              else
               some true
           | (.inr (r1587, r1588, r1589)) =>
            ((laws_eqBook (Book.mk r1587 r1588 r1589) (Book.mk r1130 r1131 r1132)).bind fun r1612 =>
            if r1612 = true then
             some false
            else
             some true).bind fun y1626 =>
            if y1626 = true then
             some false
            else
             (laws_heldBook (Book.mk 0 ([] : List Int) ([] : List Tally)) 1).bind fun r1641 =>
             if (decide (r1641 < 0)) = true then
              some false
             else
              if (r1641 != r1439) = true then
               some false
              else
               some true
       else
        some false
      else
       some false
    | (.inr (r1681, r1682, r1683)) =>
     ((laws_eqBook (Book.mk r1681 r1682 r1683) (Book.mk r1130 r1131 r1132)).bind fun r1745 =>
     if r1745 = true then
      some false
     else
      some true).bind fun y1771 =>
     if y1771 = true then
      some false
     else
      (laws_toBook a1).bind fun (r1794, r1795, r1796) =>
      (laws_eqBook (Book.mk r1147 r1148 r1149) (Book.mk r1794 r1795 r1796)).bind fun r1798 =>
      if r1798 = true then
       (laws_toDealS a2).bind fun r1812 =>
       (laws_eqDealS r1184 r1812).bind fun r1814 =>
       if r1814 = true then
        (laws_markBook_ll r1147 r1148 r1149 1).bind fun (r1839, r1840, r1841) =>
        (laws_markDealS_l r1184 r1839).bind fun (r1869, r1870) =>
        (if (decide (r1869 < 0)) = true then
         some true
        else
         (laws_eqBook (Book.mk r1681 r1682 r1683) (Book.mk r1130 r1131 r1132)).bind fun r1901 =>
         if r1901 = true then
          some false
         else
          some true).bind fun y1921 =>
        if y1921 = true then
         some false
        else
         (laws_markBook_ll r1681 r1682 r1683 1).bind fun (r1945, r1946, r1947) =>
         (laws_heldBook (Book.mk r1681 r1946 r1947) 1).bind fun r1978 =>
         if (decide (r1978 < 0)) = true then
          some false
         else
          if (r1978 != r1945) = true then
           some false
          else
           (laws_toBook a1).bind fun (r2016, r2017, r2018) =>
           (laws_toDealS a2).bind fun r2020 =>
           (impl_DoDeals (Book.mk r2016 r2017 r2018) r2020).bind fun r => match r with
           | (.inl r2022) =>
            ((laws_eqBook (Book.mk 0 ([] : List Int) ([] : List Tally)) (Book.mk r1130 r1131 r1132)).bind fun r2051 =>
            if r2051 = true then
             some (r2022 != 0)
            else
             some true).bind fun y2065 =>
            if y2065 = true then
             some false
            else
             (laws_heldBook (Book.mk r1681 r1946 r1947) 1).bind fun r2082 =>
             if (decide (r2082 < 0)) = true then
              some false
             else
              if (r2082 != r1945) = true then
               some false
              else
               some true
           | (.inr (r2109, r2110, r2111)) =>
            ((laws_eqBook (Book.mk r2109 r2110 r2111) (Book.mk r1130 r1131 r1132)).bind fun r2140 =>
            if r2140 = true then
             some false
            else
             some true).bind fun y2154 =>
            if y2154 = true then
             some false
            else
             (laws_heldBook (Book.mk r1681 r1946 r1947) 1).bind fun r2171 =>
             if (decide (r2171 < 0)) = true then
              some false
             else
              if (r2171 != r1945) = true then
               some false
              else
               some true
       else
        some false
      else
       some false
def laws_FnExactDoDeals_enc (r : Bool) : AV := .bool r
theorem laws_FnExactDoDeals_ok (a1 : Book) (a2 : List Deal) (r : Bool) (h : laws_FnExactDoDeals a1 a2 = some r) : Ev (fun k => CN k 5 [.agg [.int .i64 a1.Day, .sl none (a1.Cash.map (cI .i64)), .sl none (a1.Tallies.map Tally.c)], .sl none (a2.map Deal.c)] []) (fun p => rRes p.2 p.1 = laws_FnExactDoDeals_enc r) := by
 unfold laws_FnExactDoDeals at h
 obtain ⟨r11, hx10, h⟩ := bind_some h
 refine Ev.enter (F := fun k => f5 (CN k) k) (fun k => callN_eq rfl Try.func5 rfl rfl rfl (by decide +kernel) (f5_eq _ _)) (sq (Rg (kx (bxI rfl rfl ⟨rfl, rfl, by decide⟩) (kx (mvO rfl) (Rn (hN rfl (hN rfl hZ)) fun e1 h3 h4 => sN (sq (Rg (kx (mvO rfl) (Rn (hA h3 (hA h4 (hV (.int .i64 1048576) rfl hZ))) fun e5 h7 h8 h9 => sN (sq (Rg (kx (ldPA h8 rfl rfl) (kx (mvO h9) (kc (cl (v := .int .i64 r11) rfl (cns rfl (cns rfl rfl)) rfl (laws_szBook_ok a1 1048576 _ hx10) nm) (kx (mvO rfl) (Rn (hA h7 (hA h8 (hN rfl hZ))) fun e12 h14 h15 h16 => sN (sq (sq (Rg (kx (mvO h16) (kx (bLss rfl rfl) (Rn (hA h14 (hA h15 (hA h16 (hN rfl hZ)))) fun e17 h19 h20 h21 h22 => sN ?_))))))))))))))))))))))
 clear h3 h4 h7 h8 h14 h15 h16
 rcases ite_some h with ⟨hb23, h⟩ | ⟨hb23, h⟩
 ·refine cT h22 hb23 (sq (Rg (kx (mvO rfl) (Rn (hV (.bool true) rfl hZ) fun e24 h26 => sN (xx (sR ?_))))))
  clear h19 h20 h21 h22
  obtain rfl := si h
  exact eR (resT h26 res0) rfl
 obtain ⟨r28, hx27, h⟩ := bind_some h
 refine cF h22 hb23 (xx (sN (sq (Rg (kx (mvO h19) (kx (mvO h21) (kc (cl (v := .int .i64 r28) rfl (cns rfl (cns rfl rfl)) rfl (laws_szDealS_ok a2 r11 _ hx27) nm) (kx (mvO rfl) (Rn (hA h19 (hA h20 (hN rfl hZ))) fun e29 h31 h32 h33 => sN (sq (sq (Rg (kx (mvO h33) (kx (bLss rfl rfl) (Rn (hA h31 (hA h32 (hN rfl hZ))) fun e34 h36 h37 h38 => sN ?_)))))))))))))))
 clear h19 h20 h22 h31 h32 h33
 rcases ite_some h with ⟨hb39, h⟩ | ⟨hb39, h⟩
 ·refine cT h38 hb39 (sq (Rg (kx (mvO rfl) (Rn (hV (.bool true) rfl hZ) fun e40 h42 => sN (xx (sR ?_))))))
  clear h36 h37 h38
  obtain rfl := si h
  exact eR (resT h42 res0) rfl
 obtain ⟨⟨r44, r45, r46⟩, hx43, h⟩ := bind_some h
 obtain ⟨r48, hx47, h⟩ := bind_some h
 obtain ⟨q2212, hx49, h⟩ := bind_some h
 refine cF h38 hb39 (xx (sN (sq (Rg (kx (ldPA h37 rfl rfl) (kc (cl (v := .agg [.int .i64 r44, .sl (some 2) (r45.map (cI .i64)), .sl (some 75) (r46.map Tally.c)]) rfl (cns rfl rfl) rfl (laws_toBook_ok a1 _ hx43) nm) (kx (mvO h36) (kc (cl (v := .sl (some 65) (r48.map Deal.c)) rfl (cns rfl rfl) rfl (laws_toDealS_ok a2 _ hx47) nm) ?_))))))))
 rcases q2212 with r50 | ⟨r1130, r1131, r1132⟩
 ·refine kc (cl (v := .tup [.agg [.int .i64 0, .nils, .nils], .int .i64 r50]) rfl (cns rfl (cns rfl rfl)) rfl (spec_DoDeals_ok (Book.mk r44 r45 r46) r48 _ hx49) nm) (kx (mvO rfl) (kx (exT rfl rfl) (kx (exT rfl rfl) (ku (alO zero33) fun M52 hM53 => ?_))))
  have o54 : M52[([] : Mem).length]? = some (.live ⟨.box, 33, 3, [[.int .i64 0, .nils, .nils]]⟩) := push_new hM53
  refine kw (stO rfl rfl o54 rfl rfl ⟨rfl, ble rfl⟩ rfl rfl) fun M55 hM56 => ?_
  have o57 : M55[([] : Mem).length]? = some (.live ⟨.box, 33, 3, [[.int .i64 0, .nils, .nils]]⟩) := set_same hM56 o54
  obtain ⟨⟨r65, r66, r67⟩, hx64, h⟩ := bind_some h
  refine kx (mvO rfl) (Rn (hA h36 (hA h37 (hV (.loc ([] : Mem).length 1 0 0) rfl (hN rfl hZ)))) fun e58 h60 h61 h62 h63 => sN (sq (Rg (kx (ldPA h61 rfl rfl) (Ev.nxcp (Ev.callT (v := .agg [.int .i64 r65, .sl (some 2) (r66.map (cI .i64)), .sl (some 75) (r67.map Tally.c)]) rfl (cns rfl rfl) rfl (laws_toBook_ok a1 _ hx64) (th_gen (v' := .agg [.int .i64 r65, .lsl M55.length r66.length 0 r66.length, .lsl (M55.length + 1) r67.length 0 r67.length]) (l := [⟨.grow, 2, 1, r66.map (cI .i64)⟩, ⟨.grow, 75, 5, r67.map Tally.c⟩]) (own_agg (oa1 rfl (oa1 (own1_row' (c := (cI .i64)) (fun _ => rfl)) (oa1 (own1_row' (c := Tally.c) Tally.flF) oa0)))) (by simp [thaw, thaw2, thaw1, thawL, co2, co75]) rfl rfl)) fun M70 hM71 => ?_)))))
  clear h36 h37 h38
  have o72 := push_old hM71 o57
  have ne73 : ([] : Mem).length ≠ M55.length := by have := lt_of_get (M := M55) o57; omega
  have o74 : M70[M55.length]? = some (.live ⟨.grow, 2, 1, r66.map (cI .i64)⟩) := push_at hM71 0 rfl
  have ne75 : ([] : Mem).length ≠ (M55.length + 1) := by have := lt_of_get (M := M55) o57; omega
  have ne76 : M55.length ≠ (M55.length + 1) := by omega
  have o77 : M70[(M55.length + 1)]? = some (.live ⟨.grow, 75, 5, r67.map Tally.c⟩) := push_at hM71 1 rfl
  refine ku (alO zero33) fun M79 hM80 => ?_
  have o81 := push_old hM80 o72
  have ne82 := ne_new o72
  have o83 := push_old hM80 o74
  have ne84 := ne_new o74
  have o85 := push_old hM80 o77
  have ne86 := ne_new o77
  have o87 : M79[M70.length]? = some (.live ⟨.box, 33, 3, [[.int .i64 0, .nils, .nils]]⟩) := push_new hM80
  refine kw (stO rfl rfl o87 rfl rfl ⟨rfl, ble rfl⟩ (all1 rfl (all1 (okL o83 (by simp)) (all1 (okL o85 (by simp)) all0))) rfl) fun M88 hM89 => ?_
  have o90 := set_ne hM89 ne82 o81
  have o91 := set_ne hM89 ne84 o83
  have o92 := set_ne hM89 ne86 o85
  have o93 : M88[M70.length]? = some (.live ⟨.box, 33, 3, [[.int .i64 r65, .lsl M55.length r66.length 0 r66.length, .lsl (M55.length + 1) r67.length 0 r67.length]]⟩) := set_same hM89 o87
  obtain ⟨r102, hx101, h⟩ := bind_some h
  refine Rn (hA h60 (hA h61 (hA h62 (hA h63 (hV (.loc M70.length 1 0 0) rfl hZ))))) fun e94 h96 h97 h98 h99 h100 => sN (sq (Rg (kx (mvO h96) (Ev.nxcp (Ev.callT (v := .sl (some 65) (r102.map Deal.c)) rfl (cns rfl rfl) rfl (laws_toDealS_ok a2 _ hx101) (th_gen (v' := .lsl M88.length r102.length 0 r102.length) (l := [⟨.grow, 65, 6, r102.map Deal.c⟩]) (ownA_row (c := Deal.c) Deal.flF) (by simp [thaw, thaw2, thaw1, thawL, co65]) rfl rfl)) fun M104 hM105 => ?_))))
  clear h60 h61 h62 h63
  have o106 := push_old hM105 o90
  have o107 := push_old hM105 o91
  have o108 := push_old hM105 o92
  have o109 := push_old hM105 o93
  have ne110 : ([] : Mem).length ≠ M88.length := by have := lt_of_get (M := M88) o90; omega
  have ne111 : M55.length ≠ M88.length := by have := lt_of_get (M := M88) o91; omega
  have ne112 : (M55.length + 1) ≠ M88.length := by have := lt_of_get (M := M88) o92; omega
  have ne113 : M70.length ≠ M88.length := by have := lt_of_get (M := M88) o93; omega
  have o114 : M104[M88.length]? = some (.live ⟨.grow, 65, 6, r102.map Deal.c⟩) := push_at hM105 0 rfl
  obtain ⟨q1129, hx123, h⟩ := bind_some h
  refine kx (mvO rfl) (Rn (hA h96 (hA h97 (hA h98 (hA h99 (hA h100 (hV (.lsl M88.length r102.length 0 r102.length) rfl hZ)))))) fun e115 h117 h118 h119 h120 h121 h122 => sN (sq (Rg (kx (ldOA h121 o109 rfl rfl (ble rfl) rfl) (kx (mvO h122) ?_)))))
  clear h100 h96 h97 h98 h99
  rcases q1129 with r124 | ⟨r599, r600, r601⟩
  ·refine Ev.nxcp (Ev.callT (v := .tup [.agg [.int .i64 0, .nils, .nils], .int .i64 r124]) rfl (cns rfl (cns rfl rfl)) (ra1 (ra_agg (mp1 rfl (mp1 (ra1_row o107 rfl (cI_fl _)) (mp1 (ra1_row o108 rfl Tally.fl) mp0)))) (ra1 (ra1_row o114 rfl Deal.fl) ra0)) (impl_DoDeals_ok (Book.mk r65 r66 r67) r102 _ hx123) (th_gen (v' := .tup [.agg [.int .i64 0, .nils, .nils], .int .i64 r124]) (l := []) (own_tup (oa1 (own2_agg (oa1 rfl (oa1 rfl (oa1 rfl oa0)))) (oa1 rfl oa0))) (by simp [thaw, thaw2, thaw1, thawL, thaw]) rfl rfl)) fun M125 hM126 => ?_
   have o127 := push_old hM126 o106
   have o128 := push_old hM126 o107
   have o129 := push_old hM126 o108
   have o130 := push_old hM126 o109
   have o131 := push_old hM126 o114
   refine kx (mvO rfl) (kx (exT rfl rfl) (kx (exT rfl rfl) (ku (alO zero33) fun M133 hM134 => ?_)))
   have o135 := push_old hM134 o127
   have ne136 := ne_new o127
   have o137 := push_old hM134 o128
   have ne138 := ne_new o128
   have o139 := push_old hM134 o129
   have ne140 := ne_new o129
   have o141 := push_old hM134 o130
   have ne142 := ne_new o130
   have o143 := push_old hM134 o131
   have ne144 := ne_new o131
   have o145 : M133[M125.length]? = some (.live ⟨.box, 33, 3, [[.int .i64 0, .nils, .nils]]⟩) := push_new hM134
   refine kw (stO rfl rfl o145 rfl rfl ⟨rfl, ble rfl⟩ rfl rfl) fun M146 hM147 => ?_
   have o148 := set_ne hM147 ne136 o135
   have o149 := set_ne hM147 ne138 o137
   have o150 := set_ne hM147 ne140 o139
   have o151 := set_ne hM147 ne142 o141
   have o152 := set_ne hM147 ne144 o143
   have o153 : M146[M125.length]? = some (.live ⟨.box, 33, 3, [[.int .i64 0, .nils, .nils]]⟩) := set_same hM147 o145
   obtain ⟨r597, hr598, h⟩ := bind_some h
   refine kx (mvO rfl) (Rn (hA h117 (hA h118 (hA h119 (hA h120 (hA h121 (hA h122 (hV (.loc M125.length 1 0 0) rfl (hN rfl hZ)))))))) fun e154 h156 h157 h158 h159 h160 h161 h162 h163 => sN (sq (sq ?_)))
   clear h117 h118 h119 h120 h121 h122
   refine Ev.cut (Q1 := laws_FnExactDoDeals_c1_Q a1 a2 r50 r65 r66 r67 r102 r124 (([] : Mem).length) M55.length (M55.length + 1) M70.length M88.length M125.length r597) (by
       have h := hr598
       obtain ⟨r165, hx164, h⟩ := bind_some h
       refine Rg (kx (ldOA h162 o153 rfl rfl (ble rfl) rfl) (kx (ldOA h158 o148 rfl rfl (ble rfl) rfl) (kc (cl (v := .bool r165) rfl (cns rfl (cns rfl rfl)) rfl (laws_eqBook_ok (Book.mk 0 ([] : List Int) ([] : List Tally)) (Book.mk 0 ([] : List Int) ([] : List Tally)) _ hx164) nm) (kx (uNot rfl) (kx (mvO rfl) ?_)))))
       rcases ite_some h with ⟨hb166, h⟩ | ⟨hb166, h⟩
       ·refine kx (guF rfl (congrArg Bool.not hb166) (mvO h163)) (kx (guF rfl (congrArg Bool.not hb166) (mvO h159)) (kx (guF rfl (congrArg Bool.not hb166) (bNeq rfl rfl)) (kx (pkF rfl (congrArg Bool.not hb166) rfl) (Rn (hA h156 (hA h157 (hA h158 (hA h159 (hA h160 (hA h161 (hA h162 (hA h163 (hN rfl hZ))))))))) fun e167 h169 h170 h171 h172 h173 h174 h175 h176 h177 => ?_))))
        clear h156 h157 h158 h159 h160 h161 h162 h163
        obtain rfl := si h
        exact kd (show laws_FnExactDoDeals_c1_Q a1 a2 r50 r65 r66 r67 r102 r124 (([] : Mem).length) M55.length (M55.length + 1) M70.length M88.length M125.length _ _ from ⟨rfl, h169, h170, h171, h172, h173, h174, h175, h176, h177, o152, o153, o148, o149, o150, o151⟩)
       refine kx (gsF rfl (congrArg Bool.not hb166)) (kx (gsF rfl (congrArg Bool.not hb166)) (kx (gsF rfl (congrArg Bool.not hb166)) (kx (pkT rfl (congrArg Bool.not hb166) rfl) (Rn (hA h156 (hA h157 (hA h158 (hA h159 (hA h160 (hA h161 (hA h162 (hA h163 (hV (.bool true) rfl hZ))))))))) fun e178 h180 h181 h182 h183 h184 h185 h186 h187 h188 => ?_))))
       clear h156 h157 h158 h159 h160 h161 h162 h163
       obtain rfl := si h
       exact kd (show laws_FnExactDoDeals_c1_Q a1 a2 r50 r65 r66 r67 r102 r124 (([] : Mem).length) M55.length (M55.length + 1) M70.length M88.length M125.length _ _ from ⟨rfl, h180, h181, h182, h183, h184, h185, h186, h187, h188, o152, o153, o148, o149, o150, o151⟩)) ?_
   revert h hr598
   revert r597
   intro y191 hr598 h
   intro x e189 M190 hq596
   obtain ⟨rfl, h192, h193, h194, h195, h196, h197, h198, h199, h200, o201, o202, o203, o204, o205, o206⟩ := hq596
   refine sN ?_
   rcases ite_some h with ⟨hb207, h⟩ | ⟨hb207, h⟩
   ·refine cT h200 hb207 (sq (Rg (kx (mvO rfl) (Rn (hV (.bool false) rfl hZ) fun e208 h210 => sN (xx (sR ?_))))))
    clear h192 h193 h194 h195 h196 h197 h198 h199 h200
    obtain rfl := si h
    exact eR (resT h210 res0) rfl
   obtain ⟨⟨r212, r213, r214⟩, hx211, h⟩ := bind_some h
   obtain ⟨r216, hx215, h⟩ := bind_some h
   refine cF h200 hb207 (xx (sN (sq (sq (Rd (kf (ldOA h196 o206 rfl rfl (ble rfl) rfl) (kf (ldPA h193 rfl rfl) (fc (cl (v := .agg [.int .i64 r212, .sl (some 2) (r213.map (cI .i64)), .sl (some 75) (r214.map Tally.c)]) rfl (cns rfl rfl) rfl (laws_toBook_ok a1 _ hx211) nm) (fc (cl (v := .bool r216) rfl (cns rfl (cns rfl rfl)) (ra1 (ra_agg (mp1 rfl (mp1 (ra1_row o204 rfl (cI_fl _)) (mp1 (ra1_row o205 rfl Tally.fl) mp0)))) (ra1 rfl ra0)) (laws_eqBook_ok (Book.mk r65 r66 r67) (Book.mk r212 r213 r214) _ hx215) (fun _ => rfl)) (kf (uNot rfl) (fZ (Rn (hV (.sl none (a2.map Deal.c)) h192 (hV (.pt none [.int .i64 a1.Day, .sl none (a1.Cash.map (cI .i64)), .sl none (a1.Tallies.map Tally.c)]) h193 (hV (.loc ([] : Mem).length 1 0 0) h194 (hV (.int .i64 r50) h195 (hV (.loc M70.length 1 0 0) h196 (hV (.lsl M88.length r102.length 0 r102.length) h197 (hV (.loc M125.length 1 0 0) h198 (hV (.int .i64 r124) h199 (hN rfl hZ))))))))) fun e217 h219 h220 h221 h222 h223 h224 h225 h226 h227 => sN ?_))))))))))))
   clear h192 h193 h194 h195 h196 h197 h198 h199 h200
   rcases ite_some h with ⟨hb228, h⟩ | ⟨hb228, h⟩
   ·obtain ⟨r230, hx229, h⟩ := bind_some h
    obtain ⟨r232, hx231, h⟩ := bind_some h
    refine cF h227 (congrArg Bool.not hb228) (xx (sN (sq (sq (Rg (kx (mvO h224) (kx (mvO h219) (kc (cl (v := .sl (some 65) (r230.map Deal.c)) rfl (cns rfl rfl) rfl (laws_toDealS_ok a2 _ hx229) nm) (kc (cl (v := .bool r232) rfl (cns rfl (cns rfl rfl)) (ra1 (ra1_row o201 rfl Deal.fl) (ra1 rfl ra0)) (laws_eqDealS_ok r102 r230 _ hx231) (fun _ => rfl)) (kx (uNot rfl) (Rn (hA h219 (hA h220 (hA h221 (hA h222 (hA h223 (hA h224 (hA h225 (hA h226 (hN rfl hZ))))))))) fun e233 h235 h236 h237 h238 h239 h240 h241 h242 h243 => sN ?_)))))))))))
    clear h219 h220 h221 h222 h223 h224 h225 h226 h227
    rcases ite_some h with ⟨hb244, h⟩ | ⟨hb244, h⟩
    ·obtain ⟨⟨r257, r258, r259⟩, hx256, h⟩ := bind_some h
     refine cF h243 (congrArg Bool.not hb244) (xx (sN (sq (Rg (kx (mvO rfl) (Rn (hA h235 (hA h236 (hA h237 (hA h238 (hA h239 (hA h240 (hA h241 (hA h242 (hV (.int .i64 1) rfl hZ))))))))) fun e245 h247 h248 h249 h250 h251 h252 h253 h254 h255 => sN (sq (Rg (kx (ldOA h251 o206 rfl rfl (ble rfl) rfl) (kx (mvO h255) (Ev.nxw (Ev.callW rfl (cns rfl (cns rfl rfl)) (laws_markBook_ll_ok r65 r66 r67 1 M55.length (M55.length + 1) ne76 M190 o204 o205 _ hx256)) fun v262 M260 hq261 => ?_)))))))))))
     clear h235 h236 h237 h238 h239 h240 h241 h242 h243
     obtain ⟨hv262, o263, o264, fr265, hl266, hl267⟩ := hq261
     have hv262 : v262 = .int .i64 r257 := hv262
     subst hv262
     have o268 : M260[M55.length]? = some (.live ⟨.grow, 2, 1, r258.map (cI .i64)⟩) := o263
     have o269 : M260[(M55.length + 1)]? = some (.live ⟨.grow, 75, 5, r259.map Tally.c⟩) := o264
     have hl266 : r258.length = r66.length := hl266
     have hl267 : r259.length = r67.length := hl267
     have o270 : M260[M88.length]? = some (.live ⟨.grow, 65, 6, r102.map Deal.c⟩) := fr265 _ _ (niC (Ne.symm ne111) (niC (Ne.symm ne112) niN)) o201
     have o271 : M260[M125.length]? = some (.live ⟨.box, 33, 3, [[.int .i64 0, .nils, .nils]]⟩) := fr265 _ _ (niC (Ne.symm ne138) (niC (Ne.symm ne140) niN)) o202
     have o272 : M260[([] : Mem).length]? = some (.live ⟨.box, 33, 3, [[.int .i64 0, .nils, .nils]]⟩) := fr265 _ _ (niC ne73 (niC ne75 niN)) o203
     have o273 : M260[M70.length]? = some (.live ⟨.box, 33, 3, [[.int .i64 r65, .lsl M55.length r66.length 0 r66.length, .lsl (M55.length + 1) r67.length 0 r67.length]]⟩) := fr265 _ _ (niC (Ne.symm ne84) (niC (Ne.symm ne86) niN)) o206
     obtain ⟨⟨r285, r286⟩, hx284, h⟩ := bind_some h
     refine kx (mvO rfl) (Rn (hA h247 (hA h248 (hA h249 (hA h250 (hA h252 (hA h253 (hA h254 (hN rfl hZ)))))))) fun e274 h276 h277 h278 h279 h280 h281 h282 h283 => sN (sq (Rg (kx (mvO h280) (kx (mvO h283) (Ev.nxw (Ev.callW rfl (cns rfl (cns rfl rfl)) (laws_markDealS_l_ok r102 r257 M88.length M260 o270 _ hx284)) fun v289 M287 hq288 => ?_))))))
     clear h247 h248 h249 h250 h251 h252 h253 h254
     obtain ⟨hv289, o290, fr291, hl292⟩ := hq288
     have hv289 : v289 = .int .i64 r285 := hv289
     subst hv289
     have o293 : M287[M88.length]? = some (.live ⟨.grow, 65, 6, r286.map Deal.c⟩) := o290
     have hl292 : r286.length = r102.length := hl292
     have o294 : M287[M125.length]? = some (.live ⟨.box, 33, 3, [[.int .i64 0, .nils, .nils]]⟩) := fr291 _ _ (niC (Ne.symm ne144) niN) o271
     have o295 : M287[([] : Mem).length]? = some (.live ⟨.box, 33, 3, [[.int .i64 0, .nils, .nils]]⟩) := fr291 _ _ (niC ne110 niN) o272
     obtain ⟨r588, hr589, h⟩ := bind_some h
     refine kx (mvO rfl) (Rn (hA h276 (hA h277 (hA h278 (hA h279 (hA h281 (hA h282 (hN rfl hZ))))))) fun e296 h298 h299 h300 h301 h302 h303 h304 => sN (sq (sq ?_)))
     clear h276 h277 h278 h279 h280 h281 h282
     refine Ev.cut (Q1 := laws_FnExactDoDeals_c2_Q a1 a2 r50 M125.length (([] : Mem).length) r588) (by
         have h := hr589
         refine Rg (kx (mvO h304) (kx (bLss rfl rfl) (kx (mvO rfl) ?_)))
         rcases ite_some h with ⟨hb305, h⟩ | ⟨hb305, h⟩
         ·refine kx (gsF rfl hb305) (kx (gsF rfl hb305) (kc (Ev.gsF rfl hb305) (kx (gsF rfl hb305) (kx (pkT rfl hb305 rfl) (kx (mvO rfl) (kx (gsF rfl rfl) (kx (gsF rfl rfl) (kx (gsF rfl rfl) (kx (pkT rfl rfl rfl) (Rn (hA h298 (hA h299 (hA h300 (hA h301 (hA h302 (hV (.bool true) rfl hZ)))))) fun e306 h308 h309 h310 h311 h312 h313 => ?_))))))))))
          clear h298 h299 h300 h301 h302 h303 h304
          obtain rfl := si h
          exact kd (show laws_FnExactDoDeals_c2_Q a1 a2 r50 M125.length (([] : Mem).length) _ _ from ⟨rfl, h308, h309, h310, h311, h312, h313, o294, o295⟩)
         obtain ⟨r315, hx314, h⟩ := bind_some h
         refine kx (guF rfl hb305 (ldOA h302 o294 rfl rfl (ble rfl) rfl)) (kx (guF rfl hb305 (ldOA h300 o295 rfl rfl (ble rfl) rfl)) (kc (Ev.guF rfl hb305 (cl (v := .bool r315) rfl (cns rfl (cns rfl rfl)) rfl (laws_eqBook_ok (Book.mk 0 ([] : List Int) ([] : List Tally)) (Book.mk 0 ([] : List Int) ([] : List Tally)) _ hx314) nm)) (kx (guF rfl hb305 (uNot rfl)) (kx (pkF rfl hb305 rfl) (kx (mvO rfl) ?_)))))
         rcases ite_some h with ⟨hb316, h⟩ | ⟨hb316, h⟩
         ·refine kx (guF rfl (congrArg Bool.not hb316) (mvO h303)) (kx (guF rfl (congrArg Bool.not hb316) (mvO h301)) (kx (guF rfl (congrArg Bool.not hb316) (bNeq rfl rfl)) (kx (pkF rfl (congrArg Bool.not hb316) rfl) (Rn (hA h298 (hA h299 (hA h300 (hA h301 (hA h302 (hN rfl hZ)))))) fun e317 h319 h320 h321 h322 h323 h324 => ?_))))
          clear h298 h299 h300 h301 h302 h303 h304
          obtain rfl := si h
          exact kd (show laws_FnExactDoDeals_c2_Q a1 a2 r50 M125.length (([] : Mem).length) _ _ from ⟨rfl, h319, h320, h321, h322, h323, h324, o294, o295⟩)
         refine kx (gsF rfl (congrArg Bool.not hb316)) (kx (gsF rfl (congrArg Bool.not hb316)) (kx (gsF rfl (congrArg Bool.not hb316)) (kx (pkT rfl (congrArg Bool.not hb316) rfl) (Rn (hA h298 (hA h299 (hA h300 (hA h301 (hA h302 (hV (.bool true) rfl hZ)))))) fun e325 h327 h328 h329 h330 h331 h332 => ?_))))
         clear h298 h299 h300 h301 h302 h303 h304
         obtain rfl := si h
         exact kd (show laws_FnExactDoDeals_c2_Q a1 a2 r50 M125.length (([] : Mem).length) _ _ from ⟨rfl, h327, h328, h329, h330, h331, h332, o294, o295⟩)) ?_
     revert h hr589
     revert r588
     intro y335 hr589 h
     intro x e333 M334 hq587
     obtain ⟨rfl, h336, h337, h338, h339, h340, h341, o342, o343⟩ := hq587
     refine sN ?_
     rcases ite_some h with ⟨hb344, h⟩ | ⟨hb344, h⟩
     ·refine cT h341 hb344 (sq (Rg (kx (mvO rfl) (Rn (hV (.bool false) rfl hZ) fun e345 h347 => sN (xx (sR ?_))))))
      clear h336 h337 h338 h339 h340 h341
      obtain rfl := si h
      exact eR (resT h347 res0) rfl
     obtain ⟨r357, hx356, h⟩ := bind_some h
     refine cF h341 hb344 (xx (sN (sq (Rg (kx (mvO rfl) (Rn (hV (.sl none (a2.map Deal.c)) h336 (hV (.pt none [.int .i64 a1.Day, .sl none (a1.Cash.map (cI .i64)), .sl none (a1.Tallies.map Tally.c)]) h337 (hV (.loc ([] : Mem).length 1 0 0) h338 (hV (.int .i64 r50) h339 (hV (.loc M125.length 1 0 0) h340 (hV (.int .i64 1) rfl hZ)))))) fun e348 h350 h351 h352 h353 h354 h355 => sN (sq (Rg (kx (ldOA h354 o342 rfl rfl (ble rfl) rfl) (kx (mvO h355) (Ev.nxw (Ev.callW rfl (cns rfl (cns rfl rfl)) (laws_markBook_nn_ok 0 1 M334 _ hx356)) fun v360 M358 hq359 => ?_)))))))))))
     clear h336 h337 h338 h339 h340 h341
     obtain ⟨hv360, fr361⟩ := hq359
     have hv360 : v360 = .int .i64 r357 := hv360
     subst hv360
     have o362 : M358[M125.length]? = some (.live ⟨.box, 33, 3, [[.int .i64 0, .nils, .nils]]⟩) := fr361 _ _ niN o342
     have o363 : M358[([] : Mem).length]? = some (.live ⟨.box, 33, 3, [[.int .i64 0, .nils, .nils]]⟩) := fr361 _ _ niN o343
     obtain ⟨r382, hx381, h⟩ := bind_some h
     refine kx (mvO rfl) (Rn (hA h350 (hA h351 (hA h352 (hA h353 (hA h354 (hN rfl hZ)))))) fun e364 h366 h367 h368 h369 h370 h371 => sN (sq (Rg (kx (mvO rfl) (Rn (hA h366 (hA h367 (hA h368 (hA h369 (hA h370 (hA h371 (hV (.int .i64 1) rfl hZ))))))) fun e372 h374 h375 h376 h377 h378 h379 h380 => sN (sq (Rg (kx (ldOA h378 o362 rfl rfl (ble rfl) rfl) (kx (mvO h380) (kc (cl (v := .int .i64 r382) rfl (cns rfl (cns rfl rfl)) rfl (laws_heldBook_ok (Book.mk 0 ([] : List Int) ([] : List Tally)) 1 _ hx381) nm) (kx (mvO rfl) (Rn (hA h374 (hA h375 (hA h376 (hA h377 (hA h378 (hA h379 (hN rfl hZ))))))) fun e383 h385 h386 h387 h388 h389 h390 h391 => sN (sq (sq (Rg (kx (mvO h391) (kx (bLss rfl rfl) (Rn (hA h385 (hA h386 (hA h387 (hA h388 (hA h389 (hA h390 (hA h391 (hN rfl hZ)))))))) fun e392 h394 h395 h396 h397 h398 h399 h400 h401 => sN ?_))))))))))))))))))
     clear h350 h351 h352 h353 h354 h366 h367 h368 h369 h370 h371 h374 h375 h376 h377 h378 h379 h385 h386 h387 h388 h389 h390 h391
     rcases ite_some h with ⟨hb402, h⟩ | ⟨hb402, h⟩
     ·refine cT h401 hb402 (sq (Rg (kx (mvO rfl) (Rn (hV (.bool false) rfl hZ) fun e403 h405 => sN (xx (sR ?_))))))
      clear h394 h395 h396 h397 h398 h399 h400 h401
      obtain rfl := si h
      exact eR (resT h405 res0) rfl
     refine cF h401 hb402 (xx (sN (sq (sq (Rg (kx (mvO h400) (kx (mvO h399) (kx (bNeq rfl rfl) (Rn (hA h394 (hA h395 (hA h396 (hA h397 (hA h398 (hA h399 (hN rfl hZ))))))) fun e406 h408 h409 h410 h411 h412 h413 h414 => sN ?_)))))))))
     clear h394 h395 h396 h397 h398 h399 h400 h401
     rcases ite_some h with ⟨hb415, h⟩ | ⟨hb415, h⟩
     ·refine cT h414 hb415 (sq (Rg (kx (mvO rfl) (Rn (hV (.bool false) rfl hZ) fun e416 h418 => sN (xx (sR ?_))))))
      clear h408 h409 h410 h411 h412 h413 h414
      obtain rfl := si h
      exact eR (resT h418 res0) rfl
     obtain ⟨⟨r420, r421, r422⟩, hx419, h⟩ := bind_some h
     obtain ⟨r424, hx423, h⟩ := bind_some h
     obtain ⟨q586, hx425, h⟩ := bind_some h
     refine cF h414 hb415 (xx (sN (sq (Rg (kx (ldPA h409 rfl rfl) (kc (cl (v := .agg [.int .i64 r420, .sl (some 2) (r421.map (cI .i64)), .sl (some 75) (r422.map Tally.c)]) rfl (cns rfl rfl) rfl (laws_toBook_ok a1 _ hx419) nm) (kx (mvO h408) (kc (cl (v := .sl (some 65) (r424.map Deal.c)) rfl (cns rfl rfl) rfl (laws_toDealS_ok a2 _ hx423) nm) ?_))))))))
     rcases q586 with r426 | ⟨r505, r506, r507⟩
     ·refine kc (cl (v := .tup [.agg [.int .i64 0, .nils, .nils], .int .i64 r426]) rfl (cns rfl (cns rfl rfl)) rfl (impl_DoDeals_ok (Book.mk r420 r421 r422) r424 _ hx425) nm) (kx (mvO rfl) (kx (exT rfl rfl) (kx (exT rfl rfl) (ku (alO zero33) fun M428 hM429 => ?_))))
      have o430 := push_old hM429 o362
      have ne431 := ne_new o362
      have o432 := push_old hM429 o363
      have ne433 := ne_new o363
      have o434 : M428[M358.length]? = some (.live ⟨.box, 33, 3, [[.int .i64 0, .nils, .nils]]⟩) := push_new hM429
      refine kw (stO rfl rfl o434 rfl rfl ⟨rfl, ble rfl⟩ rfl rfl) fun M435 hM436 => ?_
      have o437 := set_ne hM436 ne431 o430
      have o438 := set_ne hM436 ne433 o432
      have o439 : M435[M358.length]? = some (.live ⟨.box, 33, 3, [[.int .i64 0, .nils, .nils]]⟩) := set_same hM436 o434
      obtain ⟨r503, hr504, h⟩ := bind_some h
      refine kx (mvO rfl) (Rn (hA h410 (hA h411 (hA h412 (hA h413 (hV (.loc M358.length 1 0 0) rfl (hN rfl hZ)))))) fun e440 h442 h443 h444 h445 h446 h447 => sN (sq (sq ?_)))
      clear h408 h409 h410 h411 h412 h413 h414
      refine Ev.cut (Q1 := laws_FnExactDoDeals_c3_Q r357 M125.length (([] : Mem).length) M358.length r503) (by
          have h := hr504
          obtain ⟨r449, hx448, h⟩ := bind_some h
          refine Rg (kx (ldOA h446 o439 rfl rfl (ble rfl) rfl) (kx (ldOA h442 o438 rfl rfl (ble rfl) rfl) (kc (cl (v := .bool r449) rfl (cns rfl (cns rfl rfl)) rfl (laws_eqBook_ok (Book.mk 0 ([] : List Int) ([] : List Tally)) (Book.mk 0 ([] : List Int) ([] : List Tally)) _ hx448) nm) (kx (uNot rfl) (kx (mvO rfl) ?_)))))
          rcases ite_some h with ⟨hb450, h⟩ | ⟨hb450, h⟩
          ·refine kx (guF rfl (congrArg Bool.not hb450) (mvO h447)) (kx (guF rfl (congrArg Bool.not hb450) (mvO h443)) (kx (guF rfl (congrArg Bool.not hb450) (bNeq rfl rfl)) (kx (pkF rfl (congrArg Bool.not hb450) rfl) (Rn (hA h444 (hA h445 (hN rfl hZ))) fun e451 h453 h454 h455 => ?_))))
           clear h442 h443 h444 h445 h446 h447
           obtain rfl := si h
           exact kd (show laws_FnExactDoDeals_c3_Q r357 M125.length (([] : Mem).length) M358.length _ _ from ⟨rfl, h453, h454, h455, o437⟩)
          refine kx (gsF rfl (congrArg Bool.not hb450)) (kx (gsF rfl (congrArg Bool.not hb450)) (kx (gsF rfl (congrArg Bool.not hb450)) (kx (pkT rfl (congrArg Bool.not hb450) rfl) (Rn (hA h444 (hA h445 (hV (.bool true) rfl hZ))) fun e456 h458 h459 h460 => ?_))))
          clear h442 h443 h444 h445 h446 h447
          obtain rfl := si h
          exact kd (show laws_FnExactDoDeals_c3_Q r357 M125.length (([] : Mem).length) M358.length _ _ from ⟨rfl, h458, h459, h460, o437⟩)) ?_
      revert h hr504
      revert r503
      intro y463 hr504 h
      intro x e461 M462 hq502
      obtain ⟨rfl, h464, h465, h466, o467⟩ := hq502
      refine sN ?_
      rcases ite_some h with ⟨hb468, h⟩ | ⟨hb468, h⟩
      ·refine cT h466 hb468 (sq (Rg (kx (mvO rfl) (Rn (hV (.bool false) rfl hZ) fun e469 h471 => sN (xx (sR ?_))))))
       clear h464 h465 h466
       obtain rfl := si h
       exact eR (resT h471 res0) rfl
      obtain ⟨r478, hx477, h⟩ := bind_some h
      refine cF h466 hb468 (xx (sN (sq (Rg (kx (mvO rfl) (Rn (hV (.loc M125.length 1 0 0) h464 (hV (.int .i64 r357) h465 (hV (.int .i64 1) rfl hZ))) fun e472 h474 h475 h476 => sN (sq (Rg (kx (ldOA h474 o467 rfl rfl (ble rfl) rfl) (kx (mvO h476) (kc (cl (v := .int .i64 r478) rfl (cns rfl (cns rfl rfl)) rfl (laws_heldBook_ok (Book.mk 0 ([] : List Int) ([] : List Tally)) 1 _ hx477) nm) (kx (mvO rfl) (Rn (hA h475 (hN rfl hZ)) fun e479 h481 h482 => sN (sq (sq (Rg (kx (mvO h482) (kx (bLss rfl rfl) (Rn (hA h481 (hA h482 (hN rfl hZ))) fun e483 h485 h486 h487 => sN ?_)))))))))))))))))))
      clear h464 h465 h466 h474 h475 h481 h482
      rcases ite_some h with ⟨hb488, h⟩ | ⟨hb488, h⟩
      ·refine cT h487 hb488 (sq (Rg (kx (mvO rfl) (Rn (hV (.bool false) rfl hZ) fun e489 h491 => sN (xx (sR ?_))))))
       clear h485 h486 h487
       obtain rfl := si h
       exact eR (resT h491 res0) rfl
      refine cF h487 hb488 (xx (sN (sq (sq (Rg (kx (mvO h486) (kx (mvO h485) (kx (bNeq rfl rfl) (Rn (hN rfl hZ) fun e492 h494 => sN ?_)))))))))
      clear h485 h486 h487
      rcases ite_some h with ⟨hb495, h⟩ | ⟨hb495, h⟩
      ·refine cT h494 hb495 (sq (Rg (kx (mvO rfl) (Rn (hV (.bool false) rfl hZ) fun e496 h498 => sN (xx (sR ?_))))))
       clear h494
       obtain rfl := si h
       exact eR (resT h498 res0) rfl
      refine cF h494 hb495 (xx (sN (sq (Rg (kx (mvO rfl) (Rn (hV (.bool true) rfl hZ) fun e499 h501 => sN (xx ?_)))))))
      clear h494
      obtain rfl := si h
      exact eR (resT h501 res0) rfl
     refine kc (cl (v := .tup [.agg [.int .i64 r505, .sl (some 2) (r506.map (cI .i64)), .sl (some 75) (r507.map Tally.c)], .int .i64 0]) rfl (cns rfl (cns rfl rfl)) rfl (impl_DoDeals_ok (Book.mk r420 r421 r422) r424 _ hx425) nm) (kx (mvO rfl) (kx (exT rfl rfl) (kx (exT rfl rfl) (ku (alO zero33) fun M509 hM510 => ?_))))
     have o511 := push_old hM510 o362
     have ne512 := ne_new o362
     have o513 := push_old hM510 o363
     have ne514 := ne_new o363
     have o515 : M509[M358.length]? = some (.live ⟨.box, 33, 3, [[.int .i64 0, .nils, .nils]]⟩) := push_new hM510
     refine kw (stO rfl rfl o515 rfl rfl ⟨rfl, ble rfl⟩ rfl rfl) fun M516 hM517 => ?_
     have o518 := set_ne hM517 ne512 o511
     have o519 := set_ne hM517 ne514 o513
     have o520 : M516[M358.length]? = some (.live ⟨.box, 33, 3, [[.int .i64 r505, .sl none (r506.map (cI .i64)), .sl none (r507.map Tally.c)]]⟩) := set_same hM517 o515
     obtain ⟨r584, hr585, h⟩ := bind_some h
     refine kx (mvO rfl) (Rn (hA h410 (hA h411 (hA h412 (hA h413 (hV (.loc M358.length 1 0 0) rfl (hV (.int .i64 0) rfl hZ)))))) fun e521 h523 h524 h525 h526 h527 h528 => sN (sq (sq ?_)))
     clear h408 h409 h410 h411 h412 h413 h414
     refine Ev.cut (Q1 := laws_FnExactDoDeals_c4_Q r357 M125.length (([] : Mem).length) M358.length r584) (by
         have h := hr585
         obtain ⟨r530, hx529, h⟩ := bind_some h
         refine Rg (kx (ldOA h527 o520 rfl rfl (ble rfl) rfl) (kx (ldOA h523 o519 rfl rfl (ble rfl) rfl) (kc (cl (v := .bool r530) rfl (cns rfl (cns rfl rfl)) rfl (laws_eqBook_ok (Book.mk r505 r506 r507) (Book.mk 0 ([] : List Int) ([] : List Tally)) _ hx529) nm) (kx (uNot rfl) (kx (mvO rfl) ?_)))))
         rcases ite_some h with ⟨hb531, h⟩ | ⟨hb531, h⟩
         ·refine kx (guF rfl (congrArg Bool.not hb531) (mvO h528)) (kx (guF rfl (congrArg Bool.not hb531) (mvO h524)) (kx (guF rfl (congrArg Bool.not hb531) (bNeq rfl rfl)) (kx (pkF rfl (congrArg Bool.not hb531) rfl) (Rn (hA h525 (hA h526 (hN rfl hZ))) fun e532 h534 h535 h536 => ?_))))
          clear h523 h524 h525 h526 h527 h528
          obtain rfl := si h
          exact kd (show laws_FnExactDoDeals_c4_Q r357 M125.length (([] : Mem).length) M358.length _ _ from ⟨rfl, h534, h535, h536, o518⟩)
         refine kx (gsF rfl (congrArg Bool.not hb531)) (kx (gsF rfl (congrArg Bool.not hb531)) (kx (gsF rfl (congrArg Bool.not hb531)) (kx (pkT rfl (congrArg Bool.not hb531) rfl) (Rn (hA h525 (hA h526 (hV (.bool true) rfl hZ))) fun e537 h539 h540 h541 => ?_))))
         clear h523 h524 h525 h526 h527 h528
         obtain rfl := si h
         exact kd (show laws_FnExactDoDeals_c4_Q r357 M125.length (([] : Mem).length) M358.length _ _ from ⟨rfl, h539, h540, h541, o518⟩)) ?_
     revert h hr585
     revert r584
     intro y544 hr585 h
     intro x e542 M543 hq583
     obtain ⟨rfl, h545, h546, h547, o548⟩ := hq583
     refine sN ?_
     rcases ite_some h with ⟨hb549, h⟩ | ⟨hb549, h⟩
     ·refine cT h547 hb549 (sq (Rg (kx (mvO rfl) (Rn (hV (.bool false) rfl hZ) fun e550 h552 => sN (xx (sR ?_))))))
      clear h545 h546 h547
      obtain rfl := si h
      exact eR (resT h552 res0) rfl
     obtain ⟨r559, hx558, h⟩ := bind_some h
     refine cF h547 hb549 (xx (sN (sq (Rg (kx (mvO rfl) (Rn (hV (.loc M125.length 1 0 0) h545 (hV (.int .i64 r357) h546 (hV (.int .i64 1) rfl hZ))) fun e553 h555 h556 h557 => sN (sq (Rg (kx (ldOA h555 o548 rfl rfl (ble rfl) rfl) (kx (mvO h557) (kc (cl (v := .int .i64 r559) rfl (cns rfl (cns rfl rfl)) rfl (laws_heldBook_ok (Book.mk 0 ([] : List Int) ([] : List Tally)) 1 _ hx558) nm) (kx (mvO rfl) (Rn (hA h556 (hN rfl hZ)) fun e560 h562 h563 => sN (sq (sq (Rg (kx (mvO h563) (kx (bLss rfl rfl) (Rn (hA h562 (hA h563 (hN rfl hZ))) fun e564 h566 h567 h568 => sN ?_)))))))))))))))))))
     clear h545 h546 h547 h555 h556 h562 h563
     rcases ite_some h with ⟨hb569, h⟩ | ⟨hb569, h⟩
     ·refine cT h568 hb569 (sq (Rg (kx (mvO rfl) (Rn (hV (.bool false) rfl hZ) fun e570 h572 => sN (xx (sR ?_))))))
      clear h566 h567 h568
      obtain rfl := si h
      exact eR (resT h572 res0) rfl
     refine cF h568 hb569 (xx (sN (sq (sq (Rg (kx (mvO h567) (kx (mvO h566) (kx (bNeq rfl rfl) (Rn (hN rfl hZ) fun e573 h575 => sN ?_)))))))))
     clear h566 h567 h568
     rcases ite_some h with ⟨hb576, h⟩ | ⟨hb576, h⟩
     ·refine cT h575 hb576 (sq (Rg (kx (mvO rfl) (Rn (hV (.bool false) rfl hZ) fun e577 h579 => sN (xx (sR ?_))))))
      clear h575
      obtain rfl := si h
      exact eR (resT h579 res0) rfl
     refine cF h575 hb576 (xx (sN (sq (Rg (kx (mvO rfl) (Rn (hV (.bool true) rfl hZ) fun e580 h582 => sN (xx ?_)))))))
     clear h575
     obtain rfl := si h
     exact eR (resT h582 res0) rfl
    refine cT h243 (congrArg Bool.not hb244) (sq (Rg (kx (mvO rfl) (Rn (hV (.bool false) rfl hZ) fun e590 h592 => sN (xx (sR ?_))))))
    clear h235 h236 h237 h238 h239 h240 h241 h242 h243
    obtain rfl := si h
    exact eR (resT h592 res0) rfl
   refine cT h227 (congrArg Bool.not hb228) (sq (Rg (kx (mvO rfl) (Rn (hV (.bool false) rfl hZ) fun e593 h595 => sN (xx (sR ?_))))))
   clear h219 h220 h221 h222 h223 h224 h225 h226 h227
   obtain rfl := si h
   exact eR (resT h595 res0) rfl
  refine Ev.nxcp (Ev.callT (v := .tup [.agg [.int .i64 r599, .sl (some 2) (r600.map (cI .i64)), .sl (some 75) (r601.map Tally.c)], .int .i64 0]) rfl (cns rfl (cns rfl rfl)) (ra1 (ra_agg (mp1 rfl (mp1 (ra1_row o107 rfl (cI_fl _)) (mp1 (ra1_row o108 rfl Tally.fl) mp0)))) (ra1 (ra1_row o114 rfl Deal.fl) ra0)) (impl_DoDeals_ok (Book.mk r65 r66 r67) r102 _ hx123) (th_gen (v' := .tup [.agg [.int .i64 r599, .lsl M104.length r600.length 0 r600.length, .lsl (M104.length + 1) r601.length 0 r601.length], .int .i64 0]) (l := [⟨.grow, 2, 1, r600.map (cI .i64)⟩, ⟨.grow, 75, 5, r601.map Tally.c⟩]) (own_tup (oa1 (own2_agg (oa1 rfl (oa1 (own1_row' (c := (cI .i64)) (fun _ => rfl)) (oa1 (own1_row' (c := Tally.c) Tally.flF) oa0)))) (oa1 rfl oa0))) (by simp [thaw, thaw2, thaw1, thawL, co2, co75]) rfl rfl)) fun M604 hM605 => ?_
  have o606 := push_old hM605 o106
  have o607 := push_old hM605 o107
  have o608 := push_old hM605 o108
  have o609 := push_old hM605 o109
  have o610 := push_old hM605 o114
  have ne611 : ([] : Mem).length ≠ M104.length := by have := lt_of_get (M := M104) o106; omega
  have ne612 : M55.length ≠ M104.length := by have := lt_of_get (M := M104) o107; omega
  have ne613 : (M55.length + 1) ≠ M104.length := by have := lt_of_get (M := M104) o108; omega
  have ne614 : M70.length ≠ M104.length := by have := lt_of_get (M := M104) o109; omega
  have ne615 : M88.length ≠ M104.length := by have := lt_of_get (M := M104) o114; omega
  have o616 : M604[M104.length]? = some (.live ⟨.grow, 2, 1, r600.map (cI .i64)⟩) := push_at hM605 0 rfl
  have ne617 : ([] : Mem).length ≠ (M104.length + 1) := by have := lt_of_get (M := M104) o106; omega
  have ne618 : M55.length ≠ (M104.length + 1) := by have := lt_of_get (M := M104) o107; omega
  have ne619 : (M55.length + 1) ≠ (M104.length + 1) := by have := lt_of_get (M := M104) o108; omega
  have ne620 : M70.length ≠ (M104.length + 1) := by have := lt_of_get (M := M104) o109; omega
  have ne621 : M88.length ≠ (M104.length + 1) := by have := lt_of_get (M := M104) o114; omega
  have ne622 : M104.length ≠ (M104.length + 1) := by omega
  have o623 : M604[(M104.length + 1)]? = some (.live ⟨.grow, 75, 5, r601.map Tally.c⟩) := push_at hM605 1 rfl
  refine kx (mvO rfl) (kx (exT rfl rfl) (kx (exT rfl rfl) (ku (alO zero33) fun M625 hM626 => ?_)))
  have o627 := push_old hM626 o606
  have ne628 := ne_new o606
  have o629 := push_old hM626 o607
  have ne630 := ne_new o607
  have o631 := push_old hM626 o608
  have ne632 := ne_new o608
  have o633 := push_old hM626 o609
  have ne634 := ne_new o609
  have o635 := push_old hM626 o610
  have ne636 := ne_new o610
  have o637 := push_old hM626 o616
  have ne638 := ne_new o616
  have o639 := push_old hM626 o623
  have ne640 := ne_new o623
  have o641 : M625[M604.length]? = some (.live ⟨.box, 33, 3, [[.int .i64 0, .nils, .nils]]⟩) := push_new hM626
  refine kw (stO rfl rfl o641 rfl rfl ⟨rfl, ble rfl⟩ (all1 rfl (all1 (okL o637 (by simp)) (all1 (okL o639 (by simp)) all0))) rfl) fun M642 hM643 => ?_
  have o644 := set_ne hM643 ne628 o627
  have o645 := set_ne hM643 ne630 o629
  have o646 := set_ne hM643 ne632 o631
  have o647 := set_ne hM643 ne634 o633
  have o648 := set_ne hM643 ne636 o635
  have o649 := set_ne hM643 ne638 o637
  have o650 := set_ne hM643 ne640 o639
  have o651 : M642[M604.length]? = some (.live ⟨.box, 33, 3, [[.int .i64 r599, .lsl M104.length r600.length 0 r600.length, .lsl (M104.length + 1) r601.length 0 r601.length]]⟩) := set_same hM643 o641
  obtain ⟨r1127, hr1128, h⟩ := bind_some h
  refine kx (mvO rfl) (Rn (hA h117 (hA h118 (hA h119 (hA h120 (hA h121 (hA h122 (hV (.loc M604.length 1 0 0) rfl (hV (.int .i64 0) rfl hZ)))))))) fun e652 h654 h655 h656 h657 h658 h659 h660 h661 => sN (sq (sq ?_)))
  clear h117 h118 h119 h120 h121 h122
  refine Ev.cut (Q1 := laws_FnExactDoDeals_c5_Q a1 a2 r50 r65 r66 r67 r102 r599 r600 r601 (([] : Mem).length) M55.length (M55.length + 1) M70.length M88.length M104.length (M104.length + 1) M604.length r1127) (by
      have h := hr1128
      obtain ⟨r663, hx662, h⟩ := bind_some h
      refine Rg (kx (ldOA h660 o651 rfl rfl (ble rfl) rfl) (kx (ldOA h656 o644 rfl rfl (ble rfl) rfl) (kc (cl (v := .bool r663) rfl (cns rfl (cns rfl rfl)) (ra1 (ra_agg (mp1 rfl (mp1 (ra1_row o649 rfl (cI_fl _)) (mp1 (ra1_row o650 rfl Tally.fl) mp0)))) (ra1 rfl ra0)) (laws_eqBook_ok (Book.mk r599 r600 r601) (Book.mk 0 ([] : List Int) ([] : List Tally)) _ hx662) (fun _ => rfl)) (kx (uNot rfl) (kx (mvO rfl) ?_)))))
      rcases ite_some h with ⟨hb664, h⟩ | ⟨hb664, h⟩
      ·refine kx (guF rfl (congrArg Bool.not hb664) (mvO h661)) (kx (guF rfl (congrArg Bool.not hb664) (mvO h657)) (kx (guF rfl (congrArg Bool.not hb664) (bNeq rfl rfl)) (kx (pkF rfl (congrArg Bool.not hb664) rfl) (Rn (hA h654 (hA h655 (hA h656 (hA h657 (hA h658 (hA h659 (hA h660 (hA h661 (hN rfl hZ))))))))) fun e665 h667 h668 h669 h670 h671 h672 h673 h674 h675 => ?_))))
       clear h654 h655 h656 h657 h658 h659 h660 h661
       obtain rfl := si h
       exact kd (show laws_FnExactDoDeals_c5_Q a1 a2 r50 r65 r66 r67 r102 r599 r600 r601 (([] : Mem).length) M55.length (M55.length + 1) M70.length M88.length M104.length (M104.length + 1) M604.length _ _ from ⟨rfl, h667, h668, h669, h670, h671, h672, h673, h674, h675, o648, o644, o649, o650, o651, o645, o646, o647⟩)
      refine kx (gsF rfl (congrArg Bool.not hb664)) (kx (gsF rfl (congrArg Bool.not hb664)) (kx (gsF rfl (congrArg Bool.not hb664)) (kx (pkT rfl (congrArg Bool.not hb664) rfl) (Rn (hA h654 (hA h655 (hA h656 (hA h657 (hA h658 (hA h659 (hA h660 (hA h661 (hV (.bool true) rfl hZ))))))))) fun e676 h678 h679 h680 h681 h682 h683 h684 h685 h686 => ?_))))
      clear h654 h655 h656 h657 h658 h659 h660 h661
      obtain rfl := si h
      exact kd (show laws_FnExactDoDeals_c5_Q a1 a2 r50 r65 r66 r67 r102 r599 r600 r601 (([] : Mem).length) M55.length (M55.length + 1) M70.length M88.length M104.length (M104.length + 1) M604.length _ _ from ⟨rfl, h678, h679, h680, h681, h682, h683, h684, h685, h686, o648, o644, o649, o650, o651, o645, o646, o647⟩)) ?_
  revert h hr1128
  revert r1127
  intro y689 hr1128 h
  intro x e687 M688 hq1126
  obtain ⟨rfl, h690, h691, h692, h693, h694, h695, h696, h697, h698, o699, o700, o701, o702, o703, o704, o705, o706⟩ := hq1126
  refine sN ?_
  rcases ite_some h with ⟨hb707, h⟩ | ⟨hb707, h⟩
  ·refine cT h698 hb707 (sq (Rg (kx (mvO rfl) (Rn (hV (.bool false) rfl hZ) fun e708 h710 => sN (xx (sR ?_))))))
   clear h690 h691 h692 h693 h694 h695 h696 h697 h698
   obtain rfl := si h
   exact eR (resT h710 res0) rfl
  obtain ⟨⟨r712, r713, r714⟩, hx711, h⟩ := bind_some h
  obtain ⟨r716, hx715, h⟩ := bind_some h
  refine cF h698 hb707 (xx (sN (sq (sq (Rd (kf (ldOA h694 o706 rfl rfl (ble rfl) rfl) (kf (ldPA h691 rfl rfl) (fc (cl (v := .agg [.int .i64 r712, .sl (some 2) (r713.map (cI .i64)), .sl (some 75) (r714.map Tally.c)]) rfl (cns rfl rfl) rfl (laws_toBook_ok a1 _ hx711) nm) (fc (cl (v := .bool r716) rfl (cns rfl (cns rfl rfl)) (ra1 (ra_agg (mp1 rfl (mp1 (ra1_row o704 rfl (cI_fl _)) (mp1 (ra1_row o705 rfl Tally.fl) mp0)))) (ra1 rfl ra0)) (laws_eqBook_ok (Book.mk r65 r66 r67) (Book.mk r712 r713 r714) _ hx715) (fun _ => rfl)) (kf (uNot rfl) (fZ (Rn (hV (.sl none (a2.map Deal.c)) h690 (hV (.pt none [.int .i64 a1.Day, .sl none (a1.Cash.map (cI .i64)), .sl none (a1.Tallies.map Tally.c)]) h691 (hV (.loc ([] : Mem).length 1 0 0) h692 (hV (.int .i64 r50) h693 (hV (.loc M70.length 1 0 0) h694 (hV (.lsl M88.length r102.length 0 r102.length) h695 (hV (.loc M604.length 1 0 0) h696 (hV (.int .i64 0) h697 (hN rfl hZ))))))))) fun e717 h719 h720 h721 h722 h723 h724 h725 h726 h727 => sN ?_))))))))))))
  clear h690 h691 h692 h693 h694 h695 h696 h697 h698
  rcases ite_some h with ⟨hb728, h⟩ | ⟨hb728, h⟩
  ·obtain ⟨r730, hx729, h⟩ := bind_some h
   obtain ⟨r732, hx731, h⟩ := bind_some h
   refine cF h727 (congrArg Bool.not hb728) (xx (sN (sq (sq (Rg (kx (mvO h724) (kx (mvO h719) (kc (cl (v := .sl (some 65) (r730.map Deal.c)) rfl (cns rfl rfl) rfl (laws_toDealS_ok a2 _ hx729) nm) (kc (cl (v := .bool r732) rfl (cns rfl (cns rfl rfl)) (ra1 (ra1_row o699 rfl Deal.fl) (ra1 rfl ra0)) (laws_eqDealS_ok r102 r730 _ hx731) (fun _ => rfl)) (kx (uNot rfl) (Rn (hA h719 (hA h720 (hA h721 (hA h722 (hA h723 (hA h724 (hA h725 (hA h726 (hN rfl hZ))))))))) fun e733 h735 h736 h737 h738 h739 h740 h741 h742 h743 => sN ?_)))))))))))
   clear h719 h720 h721 h722 h723 h724 h725 h726 h727
   rcases ite_some h with ⟨hb744, h⟩ | ⟨hb744, h⟩
   ·obtain ⟨⟨r757, r758, r759⟩, hx756, h⟩ := bind_some h
    refine cF h743 (congrArg Bool.not hb744) (xx (sN (sq (Rg (kx (mvO rfl) (Rn (hA h735 (hA h736 (hA h737 (hA h738 (hA h739 (hA h740 (hA h741 (hA h742 (hV (.int .i64 1) rfl hZ))))))))) fun e745 h747 h748 h749 h750 h751 h752 h753 h754 h755 => sN (sq (Rg (kx (ldOA h751 o706 rfl rfl (ble rfl) rfl) (kx (mvO h755) (Ev.nxw (Ev.callW rfl (cns rfl (cns rfl rfl)) (laws_markBook_ll_ok r65 r66 r67 1 M55.length (M55.length + 1) ne76 M688 o704 o705 _ hx756)) fun v762 M760 hq761 => ?_)))))))))))
    clear h735 h736 h737 h738 h739 h740 h741 h742 h743
    obtain ⟨hv762, o763, o764, fr765, hl766, hl767⟩ := hq761
    have hv762 : v762 = .int .i64 r757 := hv762
    subst hv762
    have o768 : M760[M55.length]? = some (.live ⟨.grow, 2, 1, r758.map (cI .i64)⟩) := o763
    have o769 : M760[(M55.length + 1)]? = some (.live ⟨.grow, 75, 5, r759.map Tally.c⟩) := o764
    have hl766 : r758.length = r66.length := hl766
    have hl767 : r759.length = r67.length := hl767
    have o770 : M760[M88.length]? = some (.live ⟨.grow, 65, 6, r102.map Deal.c⟩) := fr765 _ _ (niC (Ne.symm ne111) (niC (Ne.symm ne112) niN)) o699
    have o771 : M760[([] : Mem).length]? = some (.live ⟨.box, 33, 3, [[.int .i64 0, .nils, .nils]]⟩) := fr765 _ _ (niC ne73 (niC ne75 niN)) o700
    have o772 : M760[M104.length]? = some (.live ⟨.grow, 2, 1, r600.map (cI .i64)⟩) := fr765 _ _ (niC (Ne.symm ne612) (niC (Ne.symm ne613) niN)) o701
    have o773 : M760[(M104.length + 1)]? = some (.live ⟨.grow, 75, 5, r601.map Tally.c⟩) := fr765 _ _ (niC (Ne.symm ne618) (niC (Ne.symm ne619) niN)) o702
    have o774 : M760[M604.length]? = some (.live ⟨.box, 33, 3, [[.int .i64 r599, .lsl M104.length r600.length 0 r600.length, .lsl (M104.length + 1) r601.length 0 r601.length]]⟩) := fr765 _ _ (niC (Ne.symm ne630) (niC (Ne.symm ne632) niN)) o703
    have o775 : M760[M70.length]? = some (.live ⟨.box, 33, 3, [[.int .i64 r65, .lsl M55.length r66.length 0 r66.length, .lsl (M55.length + 1) r67.length 0 r67.length]]⟩) := fr765 _ _ (niC (Ne.symm ne84) (niC (Ne.symm ne86) niN)) o706
    obtain ⟨⟨r787, r788⟩, hx786, h⟩ := bind_some h
    refine kx (mvO rfl) (Rn (hA h747 (hA h748 (hA h749 (hA h750 (hA h752 (hA h753 (hA h754 (hN rfl hZ)))))))) fun e776 h778 h779 h780 h781 h782 h783 h784 h785 => sN (sq (Rg (kx (mvO h782) (kx (mvO h785) (Ev.nxw (Ev.callW rfl (cns rfl (cns rfl rfl)) (laws_markDealS_l_ok r102 r757 M88.length M760 o770 _ hx786)) fun v791 M789 hq790 => ?_))))))
    clear h747 h748 h749 h750 h751 h752 h753 h754
    obtain ⟨hv791, o792, fr793, hl794⟩ := hq790
    have hv791 : v791 = .int .i64 r787 := hv791
    subst hv791
    have o795 : M789[M88.length]? = some (.live ⟨.grow, 65, 6, r788.map Deal.c⟩) := o792
    have hl794 : r788.length = r102.length := hl794
    have o796 : M789[([] : Mem).length]? = some (.live ⟨.box, 33, 3, [[.int .i64 0, .nils, .nils]]⟩) := fr793 _ _ (niC ne110 niN) o771
    have o797 : M789[M104.length]? = some (.live ⟨.grow, 2, 1, r600.map (cI .i64)⟩) := fr793 _ _ (niC (Ne.symm ne615) niN) o772
    have o798 : M789[(M104.length + 1)]? = some (.live ⟨.grow, 75, 5, r601.map Tally.c⟩) := fr793 _ _ (niC (Ne.symm ne621) niN) o773
    have o799 : M789[M604.length]? = some (.live ⟨.box, 33, 3, [[.int .i64 r599, .lsl M104.length r600.length 0 r600.length, .lsl (M104.length + 1) r601.length 0 r601.length]]⟩) := fr793 _ _ (niC (Ne.symm ne636) niN) o774
    obtain ⟨r1118, hr1119, h⟩ := bind_some h
    refine kx (mvO rfl) (Rn (hA h778 (hA h779 (hA h780 (hA h781 (hA h783 (hA h784 (hN rfl hZ))))))) fun e800 h802 h803 h804 h805 h806 h807 h808 => sN (sq (sq ?_)))
    clear h778 h779 h780 h781 h782 h783 h784
    refine Ev.cut (Q1 := laws_FnExactDoDeals_c6_Q a1 a2 r50 r599 r600 r601 (([] : Mem).length) M104.length (M104.length + 1) M604.length r1118) (by
        have h := hr1119
        refine Rg (kx (mvO h808) (kx (bLss rfl rfl) (kx (mvO rfl) ?_)))
        rcases ite_some h with ⟨hb809, h⟩ | ⟨hb809, h⟩
        ·refine kx (gsF rfl hb809) (kx (gsF rfl hb809) (kc (Ev.gsF rfl hb809) (kx (gsF rfl hb809) (kx (pkT rfl hb809 rfl) (kx (mvO rfl) (kx (gsF rfl rfl) (kx (gsF rfl rfl) (kx (gsF rfl rfl) (kx (pkT rfl rfl rfl) (Rn (hA h802 (hA h803 (hA h804 (hA h805 (hA h806 (hV (.bool true) rfl hZ)))))) fun e810 h812 h813 h814 h815 h816 h817 => ?_))))))))))
         clear h802 h803 h804 h805 h806 h807 h808
         obtain rfl := si h
         exact kd (show laws_FnExactDoDeals_c6_Q a1 a2 r50 r599 r600 r601 (([] : Mem).length) M104.length (M104.length + 1) M604.length _ _ from ⟨rfl, h812, h813, h814, h815, h816, h817, o796, o797, o798, o799⟩)
        obtain ⟨r819, hx818, h⟩ := bind_some h
        refine kx (guF rfl hb809 (ldOA h806 o799 rfl rfl (ble rfl) rfl)) (kx (guF rfl hb809 (ldOA h804 o796 rfl rfl (ble rfl) rfl)) (kc (Ev.guF rfl hb809 (cl (v := .bool r819) rfl (cns rfl (cns rfl rfl)) (ra1 (ra_agg (mp1 rfl (mp1 (ra1_row o797 rfl (cI_fl _)) (mp1 (ra1_row o798 rfl Tally.fl) mp0)))) (ra1 rfl ra0)) (laws_eqBook_ok (Book.mk r599 r600 r601) (Book.mk 0 ([] : List Int) ([] : List Tally)) _ hx818) (fun _ => rfl))) (kx (guF rfl hb809 (uNot rfl)) (kx (pkF rfl hb809 rfl) (kx (mvO rfl) ?_)))))
        rcases ite_some h with ⟨hb820, h⟩ | ⟨hb820, h⟩
        ·refine kx (guF rfl (congrArg Bool.not hb820) (mvO h807)) (kx (guF rfl (congrArg Bool.not hb820) (mvO h805)) (kx (guF rfl (congrArg Bool.not hb820) (bNeq rfl rfl)) (kx (pkF rfl (congrArg Bool.not hb820) rfl) (Rn (hA h802 (hA h803 (hA h804 (hA h805 (hA h806 (hN rfl hZ)))))) fun e821 h823 h824 h825 h826 h827 h828 => ?_))))
         clear h802 h803 h804 h805 h806 h807 h808
         obtain rfl := si h
         exact kd (show laws_FnExactDoDeals_c6_Q a1 a2 r50 r599 r600 r601 (([] : Mem).length) M104.length (M104.length + 1) M604.length _ _ from ⟨rfl, h823, h824, h825, h826, h827, h828, o796, o797, o798, o799⟩)
        refine kx (gsF rfl (congrArg Bool.not hb820)) (kx (gsF rfl (congrArg Bool.not hb820)) (kx (gsF rfl (congrArg Bool.not hb820)) (kx (pkT rfl (congrArg Bool.not hb820) rfl) (Rn (hA h802 (hA h803 (hA h804 (hA h805 (hA h806 (hV (.bool true) rfl hZ)))))) fun e829 h831 h832 h833 h834 h835 h836 => ?_))))
        clear h802 h803 h804 h805 h806 h807 h808
        obtain rfl := si h
        exact kd (show laws_FnExactDoDeals_c6_Q a1 a2 r50 r599 r600 r601 (([] : Mem).length) M104.length (M104.length + 1) M604.length _ _ from ⟨rfl, h831, h832, h833, h834, h835, h836, o796, o797, o798, o799⟩)) ?_
    revert h hr1119
    revert r1118
    intro y839 hr1119 h
    intro x e837 M838 hq1117
    obtain ⟨rfl, h840, h841, h842, h843, h844, h845, o846, o847, o848, o849⟩ := hq1117
    refine sN ?_
    rcases ite_some h with ⟨hb850, h⟩ | ⟨hb850, h⟩
    ·refine cT h845 hb850 (sq (Rg (kx (mvO rfl) (Rn (hV (.bool false) rfl hZ) fun e851 h853 => sN (xx (sR ?_))))))
     clear h840 h841 h842 h843 h844 h845
     obtain rfl := si h
     exact eR (resT h853 res0) rfl
    obtain ⟨⟨r863, r864, r865⟩, hx862, h⟩ := bind_some h
    refine cF h845 hb850 (xx (sN (sq (Rg (kx (mvO rfl) (Rn (hV (.sl none (a2.map Deal.c)) h840 (hV (.pt none [.int .i64 a1.Day, .sl none (a1.Cash.map (cI .i64)), .sl none (a1.Tallies.map Tally.c)]) h841 (hV (.loc ([] : Mem).length 1 0 0) h842 (hV (.int .i64 r50) h843 (hV (.loc M604.length 1 0 0) h844 (hV (.int .i64 1) rfl hZ)))))) fun e854 h856 h857 h858 h859 h860 h861 => sN (sq (Rg (kx (ldOA h860 o849 rfl rfl (ble rfl) rfl) (kx (mvO h861) (Ev.nxw (Ev.callW rfl (cns rfl (cns rfl rfl)) (laws_markBook_ll_ok r599 r600 r601 1 M104.length (M104.length + 1) ne622 M838 o847 o848 _ hx862)) fun v868 M866 hq867 => ?_)))))))))))
    clear h840 h841 h842 h843 h844 h845
    obtain ⟨hv868, o869, o870, fr871, hl872, hl873⟩ := hq867
    have hv868 : v868 = .int .i64 r863 := hv868
    subst hv868
    have o874 : M866[M104.length]? = some (.live ⟨.grow, 2, 1, r864.map (cI .i64)⟩) := o869
    have o875 : M866[(M104.length + 1)]? = some (.live ⟨.grow, 75, 5, r865.map Tally.c⟩) := o870
    have hl872 : r864.length = r600.length := hl872
    have hl873 : r865.length = r601.length := hl873
    have o876 : M866[([] : Mem).length]? = some (.live ⟨.box, 33, 3, [[.int .i64 0, .nils, .nils]]⟩) := fr871 _ _ (niC ne611 (niC ne617 niN)) o846
    have o877 : M866[M604.length]? = some (.live ⟨.box, 33, 3, [[.int .i64 r599, .lsl M104.length r600.length 0 r600.length, .lsl (M104.length + 1) r601.length 0 r601.length]]⟩) := fr871 _ _ (niC (Ne.symm ne638) (niC (Ne.symm ne640) niN)) o849
    obtain ⟨r896, hx895, h⟩ := bind_some h
    refine kx (mvO rfl) (Rn (hA h856 (hA h857 (hA h858 (hA h859 (hA h860 (hN rfl hZ)))))) fun e878 h880 h881 h882 h883 h884 h885 => sN (sq (Rg (kx (mvO rfl) (Rn (hA h880 (hA h881 (hA h882 (hA h883 (hA h884 (hA h885 (hV (.int .i64 1) rfl hZ))))))) fun e886 h888 h889 h890 h891 h892 h893 h894 => sN (sq (Rg (kx (ldOA h892 o877 rfl rfl (ble rfl) rfl) (kx (mvO h894) (kc (cl (v := .int .i64 r896) rfl (cns rfl (cns rfl rfl)) (ra1 (ra_agg (mp1 rfl (mp1 (ra1_row o874 (by simp [hl766, hl767, hl794, hl872, hl873]) (cI_fl _)) (mp1 (ra1_row o875 (by simp [hl766, hl767, hl794, hl872, hl873]) Tally.fl) mp0)))) (ra1 rfl ra0)) (laws_heldBook_ok (Book.mk r599 r864 r865) 1 _ hx895) (fun _ => rfl)) (kx (mvO rfl) (Rn (hA h888 (hA h889 (hA h890 (hA h891 (hA h892 (hA h893 (hN rfl hZ))))))) fun e897 h899 h900 h901 h902 h903 h904 h905 => sN (sq (sq (Rg (kx (mvO h905) (kx (bLss rfl rfl) (Rn (hA h899 (hA h900 (hA h901 (hA h902 (hA h903 (hA h904 (hA h905 (hN rfl hZ)))))))) fun e906 h908 h909 h910 h911 h912 h913 h914 h915 => sN ?_))))))))))))))))))
    clear h856 h857 h858 h859 h860 h880 h881 h882 h883 h884 h885 h888 h889 h890 h891 h892 h893 h899 h900 h901 h902 h903 h904 h905
    rcases ite_some h with ⟨hb916, h⟩ | ⟨hb916, h⟩
    ·refine cT h915 hb916 (sq (Rg (kx (mvO rfl) (Rn (hV (.bool false) rfl hZ) fun e917 h919 => sN (xx (sR ?_))))))
     clear h908 h909 h910 h911 h912 h913 h914 h915
     obtain rfl := si h
     exact eR (resT h919 res0) rfl
    refine cF h915 hb916 (xx (sN (sq (sq (Rg (kx (mvO h914) (kx (mvO h913) (kx (bNeq rfl rfl) (Rn (hA h908 (hA h909 (hA h910 (hA h911 (hA h912 (hA h913 (hN rfl hZ))))))) fun e920 h922 h923 h924 h925 h926 h927 h928 => sN ?_)))))))))
    clear h908 h909 h910 h911 h912 h913 h914 h915
    rcases ite_some h with ⟨hb929, h⟩ | ⟨hb929, h⟩
    ·refine cT h928 hb929 (sq (Rg (kx (mvO rfl) (Rn (hV (.bool false) rfl hZ) fun e930 h932 => sN (xx (sR ?_))))))
     clear h922 h923 h924 h925 h926 h927 h928
     obtain rfl := si h
     exact eR (resT h932 res0) rfl
    obtain ⟨⟨r934, r935, r936⟩, hx933, h⟩ := bind_some h
    obtain ⟨r938, hx937, h⟩ := bind_some h
    obtain ⟨q1116, hx939, h⟩ := bind_some h
    refine cF h928 hb929 (xx (sN (sq (Rg (kx (ldPA h923 rfl rfl) (kc (cl (v := .agg [.int .i64 r934, .sl (some 2) (r935.map (cI .i64)), .sl (some 75) (r936.map Tally.c)]) rfl (cns rfl rfl) rfl (laws_toBook_ok a1 _ hx933) nm) (kx (mvO h922) (kc (cl (v := .sl (some 65) (r938.map Deal.c)) rfl (cns rfl rfl) rfl (laws_toDealS_ok a2 _ hx937) nm) ?_))))))))
    rcases q1116 with r940 | ⟨r1027, r1028, r1029⟩
    ·refine kc (cl (v := .tup [.agg [.int .i64 0, .nils, .nils], .int .i64 r940]) rfl (cns rfl (cns rfl rfl)) rfl (impl_DoDeals_ok (Book.mk r934 r935 r936) r938 _ hx939) nm) (kx (mvO rfl) (kx (exT rfl rfl) (kx (exT rfl rfl) (ku (alO zero33) fun M942 hM943 => ?_))))
     have o944 := push_old hM943 o876
     have ne945 := ne_new o876
     have o946 := push_old hM943 o874
     have ne947 := ne_new o874
     have o948 := push_old hM943 o875
     have ne949 := ne_new o875
     have o950 := push_old hM943 o877
     have ne951 := ne_new o877
     have o952 : M942[M866.length]? = some (.live ⟨.box, 33, 3, [[.int .i64 0, .nils, .nils]]⟩) := push_new hM943
     refine kw (stO rfl rfl o952 rfl rfl ⟨rfl, ble rfl⟩ rfl rfl) fun M953 hM954 => ?_
     have o955 := set_ne hM954 ne945 o944
     have o956 := set_ne hM954 ne947 o946
     have o957 := set_ne hM954 ne949 o948
     have o958 := set_ne hM954 ne951 o950
     have o959 : M953[M866.length]? = some (.live ⟨.box, 33, 3, [[.int .i64 0, .nils, .nils]]⟩) := set_same hM954 o952
     obtain ⟨r1025, hr1026, h⟩ := bind_some h
     refine kx (mvO rfl) (Rn (hA h924 (hA h925 (hA h926 (hA h927 (hV (.loc M866.length 1 0 0) rfl (hN rfl hZ)))))) fun e960 h962 h963 h964 h965 h966 h967 => sN (sq (sq ?_)))
     clear h922 h923 h924 h925 h926 h927 h928
     refine Ev.cut (Q1 := laws_FnExactDoDeals_c7_Q r599 r600 r601 r863 r864 r865 (([] : Mem).length) M104.length (M104.length + 1) M604.length M866.length r1025) (by
         have h := hr1026
         obtain ⟨r969, hx968, h⟩ := bind_some h
         refine Rg (kx (ldOA h966 o959 rfl rfl (ble rfl) rfl) (kx (ldOA h962 o955 rfl rfl (ble rfl) rfl) (kc (cl (v := .bool r969) rfl (cns rfl (cns rfl rfl)) rfl (laws_eqBook_ok (Book.mk 0 ([] : List Int) ([] : List Tally)) (Book.mk 0 ([] : List Int) ([] : List Tally)) _ hx968) nm) (kx (uNot rfl) (kx (mvO rfl) ?_)))))
         rcases ite_some h with ⟨hb970, h⟩ | ⟨hb970, h⟩
         ·refine kx (guF rfl (congrArg Bool.not hb970) (mvO h967)) (kx (guF rfl (congrArg Bool.not hb970) (mvO h963)) (kx (guF rfl (congrArg Bool.not hb970) (bNeq rfl rfl)) (kx (pkF rfl (congrArg Bool.not hb970) rfl) (Rn (hA h964 (hA h965 (hN rfl hZ))) fun e971 h973 h974 h975 => ?_))))
          clear h962 h963 h964 h965 h966 h967
          obtain rfl := si h
          exact kd (show laws_FnExactDoDeals_c7_Q r599 r600 r601 r863 r864 r865 (([] : Mem).length) M104.length (M104.length + 1) M604.length M866.length _ _ from ⟨rfl, h973, h974, h975, o956, o957, o958⟩)
         refine kx (gsF rfl (congrArg Bool.not hb970)) (kx (gsF rfl (congrArg Bool.not hb970)) (kx (gsF rfl (congrArg Bool.not hb970)) (kx (pkT rfl (congrArg Bool.not hb970) rfl) (Rn (hA h964 (hA h965 (hV (.bool true) rfl hZ))) fun e976 h978 h979 h980 => ?_))))
         clear h962 h963 h964 h965 h966 h967
         obtain rfl := si h
         exact kd (show laws_FnExactDoDeals_c7_Q r599 r600 r601 r863 r864 r865 (([] : Mem).length) M104.length (M104.length + 1) M604.length M866.length _ _ from ⟨rfl, h978, h979, h980, o956, o957, o958⟩)) ?_
     revert h hr1026
     revert r1025
     intro y983 hr1026 h
     intro x e981 M982 hq1024
     obtain ⟨rfl, h984, h985, h986, o987, o988, o989⟩ := hq1024
     refine sN ?_
     rcases ite_some h with ⟨hb990, h⟩ | ⟨hb990, h⟩
     ·refine cT h986 hb990 (sq (Rg (kx (mvO rfl) (Rn (hV (.bool false) rfl hZ) fun e991 h993 => sN (xx (sR ?_))))))
      clear h984 h985 h986
      obtain rfl := si h
      exact eR (resT h993 res0) rfl
     obtain ⟨r1000, hx999, h⟩ := bind_some h
     refine cF h986 hb990 (xx (sN (sq (Rg (kx (mvO rfl) (Rn (hV (.loc M604.length 1 0 0) h984 (hV (.int .i64 r863) h985 (hV (.int .i64 1) rfl hZ))) fun e994 h996 h997 h998 => sN (sq (Rg (kx (ldOA h996 o989 rfl rfl (ble rfl) rfl) (kx (mvO h998) (kc (cl (v := .int .i64 r1000) rfl (cns rfl (cns rfl rfl)) (ra1 (ra_agg (mp1 rfl (mp1 (ra1_row o987 (by simp [hl766, hl767, hl794, hl872, hl873]) (cI_fl _)) (mp1 (ra1_row o988 (by simp [hl766, hl767, hl794, hl872, hl873]) Tally.fl) mp0)))) (ra1 rfl ra0)) (laws_heldBook_ok (Book.mk r599 r864 r865) 1 _ hx999) (fun _ => rfl)) (kx (mvO rfl) (Rn (hA h997 (hN rfl hZ)) fun e1001 h1003 h1004 => sN (sq (sq (Rg (kx (mvO h1004) (kx (bLss rfl rfl) (Rn (hA h1003 (hA h1004 (hN rfl hZ))) fun e1005 h1007 h1008 h1009 => sN ?_)))))))))))))))))))
     clear h984 h985 h986 h996 h997 h1003 h1004
     rcases ite_some h with ⟨hb1010, h⟩ | ⟨hb1010, h⟩
     ·refine cT h1009 hb1010 (sq (Rg (kx (mvO rfl) (Rn (hV (.bool false) rfl hZ) fun e1011 h1013 => sN (xx (sR ?_))))))
      clear h1007 h1008 h1009
      obtain rfl := si h
      exact eR (resT h1013 res0) rfl
     refine cF h1009 hb1010 (xx (sN (sq (sq (Rg (kx (mvO h1008) (kx (mvO h1007) (kx (bNeq rfl rfl) (Rn (hN rfl hZ) fun e1014 h1016 => sN ?_)))))))))
     clear h1007 h1008 h1009
     rcases ite_some h with ⟨hb1017, h⟩ | ⟨hb1017, h⟩
     ·refine cT h1016 hb1017 (sq (Rg (kx (mvO rfl) (Rn (hV (.bool false) rfl hZ) fun e1018 h1020 => sN (xx (sR ?_))))))
      clear h1016
      obtain rfl := si h
      exact eR (resT h1020 res0) rfl
     refine cF h1016 hb1017 (xx (sN (sq (Rg (kx (mvO rfl) (Rn (hV (.bool true) rfl hZ) fun e1021 h1023 => sN (xx ?_)))))))
     clear h1016
     obtain rfl := si h
     exact eR (resT h1023 res0) rfl
    refine kc (cl (v := .tup [.agg [.int .i64 r1027, .sl (some 2) (r1028.map (cI .i64)), .sl (some 75) (r1029.map Tally.c)], .int .i64 0]) rfl (cns rfl (cns rfl rfl)) rfl (impl_DoDeals_ok (Book.mk r934 r935 r936) r938 _ hx939) nm) (kx (mvO rfl) (kx (exT rfl rfl) (kx (exT rfl rfl) (ku (alO zero33) fun M1031 hM1032 => ?_))))
    have o1033 := push_old hM1032 o876
    have ne1034 := ne_new o876
    have o1035 := push_old hM1032 o874
    have ne1036 := ne_new o874
    have o1037 := push_old hM1032 o875
    have ne1038 := ne_new o875
    have o1039 := push_old hM1032 o877
    have ne1040 := ne_new o877
    have o1041 : M1031[M866.length]? = some (.live ⟨.box, 33, 3, [[.int .i64 0, .nils, .nils]]⟩) := push_new hM1032
    refine kw (stO rfl rfl o1041 rfl rfl ⟨rfl, ble rfl⟩ rfl rfl) fun M1042 hM1043 => ?_
    have o1044 := set_ne hM1043 ne1034 o1033
    have o1045 := set_ne hM1043 ne1036 o1035
    have o1046 := set_ne hM1043 ne1038 o1037
    have o1047 := set_ne hM1043 ne1040 o1039
    have o1048 : M1042[M866.length]? = some (.live ⟨.box, 33, 3, [[.int .i64 r1027, .sl none (r1028.map (cI .i64)), .sl none (r1029.map Tally.c)]]⟩) := set_same hM1043 o1041
    obtain ⟨r1114, hr1115, h⟩ := bind_some h
    refine kx (mvO rfl) (Rn (hA h924 (hA h925 (hA h926 (hA h927 (hV (.loc M866.length 1 0 0) rfl (hV (.int .i64 0) rfl hZ)))))) fun e1049 h1051 h1052 h1053 h1054 h1055 h1056 => sN (sq (sq ?_)))
    clear h922 h923 h924 h925 h926 h927 h928
    refine Ev.cut (Q1 := laws_FnExactDoDeals_c8_Q r599 r600 r601 r863 r864 r865 (([] : Mem).length) M104.length (M104.length + 1) M604.length M866.length r1114) (by
        have h := hr1115
        obtain ⟨r1058, hx1057, h⟩ := bind_some h
        refine Rg (kx (ldOA h1055 o1048 rfl rfl (ble rfl) rfl) (kx (ldOA h1051 o1044 rfl rfl (ble rfl) rfl) (kc (cl (v := .bool r1058) rfl (cns rfl (cns rfl rfl)) rfl (laws_eqBook_ok (Book.mk r1027 r1028 r1029) (Book.mk 0 ([] : List Int) ([] : List Tally)) _ hx1057) nm) (kx (uNot rfl) (kx (mvO rfl) ?_)))))
        rcases ite_some h with ⟨hb1059, h⟩ | ⟨hb1059, h⟩
        ·refine kx (guF rfl (congrArg Bool.not hb1059) (mvO h1056)) (kx (guF rfl (congrArg Bool.not hb1059) (mvO h1052)) (kx (guF rfl (congrArg Bool.not hb1059) (bNeq rfl rfl)) (kx (pkF rfl (congrArg Bool.not hb1059) rfl) (Rn (hA h1053 (hA h1054 (hN rfl hZ))) fun e1060 h1062 h1063 h1064 => ?_))))
         clear h1051 h1052 h1053 h1054 h1055 h1056
         obtain rfl := si h
         exact kd (show laws_FnExactDoDeals_c8_Q r599 r600 r601 r863 r864 r865 (([] : Mem).length) M104.length (M104.length + 1) M604.length M866.length _ _ from ⟨rfl, h1062, h1063, h1064, o1045, o1046, o1047⟩)
        refine kx (gsF rfl (congrArg Bool.not hb1059)) (kx (gsF rfl (congrArg Bool.not hb1059)) (kx (gsF rfl (congrArg Bool.not hb1059)) (kx (pkT rfl (congrArg Bool.not hb1059) rfl) (Rn (hA h1053 (hA h1054 (hV (.bool true) rfl hZ))) fun e1065 h1067 h1068 h1069 => ?_))))
        clear h1051 h1052 h1053 h1054 h1055 h1056
        obtain rfl := si h
        exact kd (show laws_FnExactDoDeals_c8_Q r599 r600 r601 r863 r864 r865 (([] : Mem).length) M104.length (M104.length + 1) M604.length M866.length _ _ from ⟨rfl, h1067, h1068, h1069, o1045, o1046, o1047⟩)) ?_
    revert h hr1115
    revert r1114
    intro y1072 hr1115 h
    intro x e1070 M1071 hq1113
    obtain ⟨rfl, h1073, h1074, h1075, o1076, o1077, o1078⟩ := hq1113
    refine sN ?_
    rcases ite_some h with ⟨hb1079, h⟩ | ⟨hb1079, h⟩
    ·refine cT h1075 hb1079 (sq (Rg (kx (mvO rfl) (Rn (hV (.bool false) rfl hZ) fun e1080 h1082 => sN (xx (sR ?_))))))
     clear h1073 h1074 h1075
     obtain rfl := si h
     exact eR (resT h1082 res0) rfl
    obtain ⟨r1089, hx1088, h⟩ := bind_some h
    refine cF h1075 hb1079 (xx (sN (sq (Rg (kx (mvO rfl) (Rn (hV (.loc M604.length 1 0 0) h1073 (hV (.int .i64 r863) h1074 (hV (.int .i64 1) rfl hZ))) fun e1083 h1085 h1086 h1087 => sN (sq (Rg (kx (ldOA h1085 o1078 rfl rfl (ble rfl) rfl) (kx (mvO h1087) (kc (cl (v := .int .i64 r1089) rfl (cns rfl (cns rfl rfl)) (ra1 (ra_agg (mp1 rfl (mp1 (ra1_row o1076 (by simp [hl766, hl767, hl794, hl872, hl873]) (cI_fl _)) (mp1 (ra1_row o1077 (by simp [hl766, hl767, hl794, hl872, hl873]) Tally.fl) mp0)))) (ra1 rfl ra0)) (laws_heldBook_ok (Book.mk r599 r864 r865) 1 _ hx1088) (fun _ => rfl)) (kx (mvO rfl) (Rn (hA h1086 (hN rfl hZ)) fun e1090 h1092 h1093 => sN (sq (sq (Rg (kx (mvO h1093) (kx (bLss rfl rfl) (Rn (hA h1092 (hA h1093 (hN rfl hZ))) fun e1094 h1096 h1097 h1098 => sN ?_)))))))))))))))))))
    clear h1073 h1074 h1075 h1085 h1086 h1092 h1093
    rcases ite_some h with ⟨hb1099, h⟩ | ⟨hb1099, h⟩
    ·refine cT h1098 hb1099 (sq (Rg (kx (mvO rfl) (Rn (hV (.bool false) rfl hZ) fun e1100 h1102 => sN (xx (sR ?_))))))
     clear h1096 h1097 h1098
     obtain rfl := si h
     exact eR (resT h1102 res0) rfl
    refine cF h1098 hb1099 (xx (sN (sq (sq (Rg (kx (mvO h1097) (kx (mvO h1096) (kx (bNeq rfl rfl) (Rn (hN rfl hZ) fun e1103 h1105 => sN ?_)))))))))
    clear h1096 h1097 h1098
    rcases ite_some h with ⟨hb1106, h⟩ | ⟨hb1106, h⟩
    ·refine cT h1105 hb1106 (sq (Rg (kx (mvO rfl) (Rn (hV (.bool false) rfl hZ) fun e1107 h1109 => sN (xx (sR ?_))))))
     clear h1105
     obtain rfl := si h
     exact eR (resT h1109 res0) rfl
    refine cF h1105 hb1106 (xx (sN (sq (Rg (kx (mvO rfl) (Rn (hV (.bool true) rfl hZ) fun e1110 h1112 => sN (xx ?_)))))))
    clear h1105
    obtain rfl := si h
    exact eR (resT h1112 res0) rfl
   refine cT h743 (congrArg Bool.not hb744) (sq (Rg (kx (mvO rfl) (Rn (hV (.bool false) rfl hZ) fun e1120 h1122 => sN (xx (sR ?_))))))
   clear h735 h736 h737 h738 h739 h740 h741 h742 h743
   obtain rfl := si h
   exact eR (resT h1122 res0) rfl
  refine cT h727 (congrArg Bool.not hb728) (sq (Rg (kx (mvO rfl) (Rn (hV (.bool false) rfl hZ) fun e1123 h1125 => sN (xx (sR ?_))))))
  clear h719 h720 h721 h722 h723 h724 h725 h726 h727
  obtain rfl := si h
  exact eR (resT h1125 res0) rfl
 refine kc (cl (v := .tup [.agg [.int .i64 r1130, .sl none (r1131.map (cI .i64)), .sl none (r1132.map Tally.c)], .int .i64 0]) rfl (cns rfl (cns rfl rfl)) rfl (spec_DoDeals_ok (Book.mk r44 r45 r46) r48 _ hx49) nm) (kx (mvO rfl) (kx (exT rfl rfl) (kx (exT rfl rfl) (ku (alO zero33) fun M1134 hM1135 => ?_))))
 have o1136 : M1134[([] : Mem).length]? = some (.live ⟨.box, 33, 3, [[.int .i64 0, .nils, .nils]]⟩) := push_new hM1135
 refine kw (stO rfl rfl o1136 rfl rfl ⟨rfl, ble rfl⟩ rfl rfl) fun M1137 hM1138 => ?_
 have o1139 : M1137[([] : Mem).length]? = some (.live ⟨.box, 33, 3, [[.int .i64 r1130, .sl none (r1131.map (cI .i64)), .sl none (r1132.map Tally.c)]]⟩) := set_same hM1138 o1136
 obtain ⟨⟨r1147, r1148, r1149⟩, hx1146, h⟩ := bind_some h
 refine kx (mvO rfl) (Rn (hA h36 (hA h37 (hV (.loc ([] : Mem).length 1 0 0) rfl (hV (.int .i64 0) rfl hZ)))) fun e1140 h1142 h1143 h1144 h1145 => sN (sq (Rg (kx (ldPA h1143 rfl rfl) (Ev.nxcp (Ev.callT (v := .agg [.int .i64 r1147, .sl (some 2) (r1148.map (cI .i64)), .sl (some 75) (r1149.map Tally.c)]) rfl (cns rfl rfl) rfl (laws_toBook_ok a1 _ hx1146) (th_gen (v' := .agg [.int .i64 r1147, .lsl M1137.length r1148.length 0 r1148.length, .lsl (M1137.length + 1) r1149.length 0 r1149.length]) (l := [⟨.grow, 2, 1, r1148.map (cI .i64)⟩, ⟨.grow, 75, 5, r1149.map Tally.c⟩]) (own_agg (oa1 rfl (oa1 (own1_row' (c := (cI .i64)) (fun _ => rfl)) (oa1 (own1_row' (c := Tally.c) Tally.flF) oa0)))) (by simp [thaw, thaw2, thaw1, thawL, co2, co75]) rfl rfl)) fun M1152 hM1153 => ?_)))))
 clear h36 h37 h38
 have o1154 := push_old hM1153 o1139
 have ne1155 : ([] : Mem).length ≠ M1137.length := by have := lt_of_get (M := M1137) o1139; omega
 have o1156 : M1152[M1137.length]? = some (.live ⟨.grow, 2, 1, r1148.map (cI .i64)⟩) := push_at hM1153 0 rfl
 have ne1157 : ([] : Mem).length ≠ (M1137.length + 1) := by have := lt_of_get (M := M1137) o1139; omega
 have ne1158 : M1137.length ≠ (M1137.length + 1) := by omega
 have o1159 : M1152[(M1137.length + 1)]? = some (.live ⟨.grow, 75, 5, r1149.map Tally.c⟩) := push_at hM1153 1 rfl
 refine ku (alO zero33) fun M1161 hM1162 => ?_
 have o1163 := push_old hM1162 o1154
 have ne1164 := ne_new o1154
 have o1165 := push_old hM1162 o1156
 have ne1166 := ne_new o1156
 have o1167 := push_old hM1162 o1159
 have ne1168 := ne_new o1159
 have o1169 : M1161[M1152.length]? = some (.live ⟨.box, 33, 3, [[.int .i64 0, .nils, .nils]]⟩) := push_new hM1162
 refine kw (stO rfl rfl o1169 rfl rfl ⟨rfl, ble rfl⟩ (all1 rfl (all1 (okL o1165 (by simp)) (all1 (okL o1167 (by simp)) all0))) rfl) fun M1170 hM1171 => ?_
 have o1172 := set_ne hM1171 ne1164 o1163
 have o1173 := set_ne hM1171 ne1166 o1165
 have o1174 := set_ne hM1171 ne1168 o1167
 have o1175 : M1170[M1152.length]? = some (.live ⟨.box, 33, 3, [[.int .i64 r1147, .lsl M1137.length r1148.length 0 r1148.length, .lsl (M1137.length + 1) r1149.length 0 r1149.length]]⟩) := set_same hM1171 o1169
 obtain ⟨r1184, hx1183, h⟩ := bind_some h
 refine Rn (hA h1142 (hA h1143 (hA h1144 (hA h1145 (hV (.loc M1152.length 1 0 0) rfl hZ))))) fun e1176 h1178 h1179 h1180 h1181 h1182 => sN (sq (Rg (kx (mvO h1178) (Ev.nxcp (Ev.callT (v := .sl (some 65) (r1184.map Deal.c)) rfl (cns rfl rfl) rfl (laws_toDealS_ok a2 _ hx1183) (th_gen (v' := .lsl M1170.length r1184.length 0 r1184.length) (l := [⟨.grow, 65, 6, r1184.map Deal.c⟩]) (ownA_row (c := Deal.c) Deal.flF) (by simp [thaw, thaw2, thaw1, thawL, co65]) rfl rfl)) fun M1186 hM1187 => ?_))))
 clear h1142 h1143 h1144 h1145
 have o1188 := push_old hM1187 o1172
 have o1189 := push_old hM1187 o1173
 have o1190 := push_old hM1187 o1174
 have o1191 := push_old hM1187 o1175
 have ne1192 : ([] : Mem).length ≠ M1170.length := by have := lt_of_get (M := M1170) o1172; omega
 have ne1193 : M1137.length ≠ M1170.length := by have := lt_of_get (M := M1170) o1173; omega
 have ne1194 : (M1137.length + 1) ≠ M1170.length := by have := lt_of_get (M := M1170) o1174; omega
 have ne1195 : M1152.length ≠ M1170.length := by have := lt_of_get (M := M1170) o1175; omega
 have o1196 : M1186[M1170.length]? = some (.live ⟨.grow, 65, 6, r1184.map Deal.c⟩) := push_at hM1187 0 rfl
 obtain ⟨q2211, hx1205, h⟩ := bind_some h
 refine kx (mvO rfl) (Rn (hA h1178 (hA h1179 (hA h1180 (hA h1181 (hA h1182 (hV (.lsl M1170.length r1184.length 0 r1184.length) rfl hZ)))))) fun e1197 h1199 h1200 h1201 h1202 h1203 h1204 => sN (sq (Rg (kx (ldOA h1203 o1191 rfl rfl (ble rfl) rfl) (kx (mvO h1204) ?_)))))
 clear h1178 h1179 h1180 h1181 h1182
 rcases q2211 with r1206 | ⟨r1681, r1682, r1683⟩
 ·refine Ev.nxcp (Ev.callT (v := .tup [.agg [.int .i64 0, .nils, .nils], .int .i64 r1206]) rfl (cns rfl (cns rfl rfl)) (ra1 (ra_agg (mp1 rfl (mp1 (ra1_row o1189 rfl (cI_fl _)) (mp1 (ra1_row o1190 rfl Tally.fl) mp0)))) (ra1 (ra1_row o1196 rfl Deal.fl) ra0)) (impl_DoDeals_ok (Book.mk r1147 r1148 r1149) r1184 _ hx1205) (th_gen (v' := .tup [.agg [.int .i64 0, .nils, .nils], .int .i64 r1206]) (l := []) (own_tup (oa1 (own2_agg (oa1 rfl (oa1 rfl (oa1 rfl oa0)))) (oa1 rfl oa0))) (by simp [thaw, thaw2, thaw1, thawL, thaw]) rfl rfl)) fun M1207 hM1208 => ?_
  have o1209 := push_old hM1208 o1188
  have o1210 := push_old hM1208 o1189
  have o1211 := push_old hM1208 o1190
  have o1212 := push_old hM1208 o1191
  have o1213 := push_old hM1208 o1196
  refine kx (mvO rfl) (kx (exT rfl rfl) (kx (exT rfl rfl) (ku (alO zero33) fun M1215 hM1216 => ?_)))
  have o1217 := push_old hM1216 o1209
  have ne1218 := ne_new o1209
  have o1219 := push_old hM1216 o1210
  have ne1220 := ne_new o1210
  have o1221 := push_old hM1216 o1211
  have ne1222 := ne_new o1211
  have o1223 := push_old hM1216 o1212
  have ne1224 := ne_new o1212
  have o1225 := push_old hM1216 o1213
  have ne1226 := ne_new o1213
  have o1227 : M1215[M1207.length]? = some (.live ⟨.box, 33, 3, [[.int .i64 0, .nils, .nils]]⟩) := push_new hM1216
  refine kw (stO rfl rfl o1227 rfl rfl ⟨rfl, ble rfl⟩ rfl rfl) fun M1228 hM1229 => ?_
  have o1230 := set_ne hM1229 ne1218 o1217
  have o1231 := set_ne hM1229 ne1220 o1219
  have o1232 := set_ne hM1229 ne1222 o1221
  have o1233 := set_ne hM1229 ne1224 o1223
  have o1234 := set_ne hM1229 ne1226 o1225
  have o1235 : M1228[M1207.length]? = some (.live ⟨.box, 33, 3, [[.int .i64 0, .nils, .nils]]⟩) := set_same hM1229 o1227
  obtain ⟨r1679, hr1680, h⟩ := bind_some h
  refine kx (mvO rfl) (Rn (hA h1199 (hA h1200 (hA h1201 (hA h1202 (hA h1203 (hA h1204 (hV (.loc M1207.length 1 0 0) rfl (hN rfl hZ)))))))) fun e1236 h1238 h1239 h1240 h1241 h1242 h1243 h1244 h1245 => sN (sq (sq ?_)))
  clear h1199 h1200 h1201 h1202 h1203 h1204
  refine Ev.cut (Q1 := laws_FnExactDoDeals_c9_Q a1 a2 r1130 r1131 r1132 r1147 r1148 r1149 r1184 r1206 (([] : Mem).length) M1137.length (M1137.length + 1) M1152.length M1170.length M1207.length r1679) (by
      have h := hr1680
      obtain ⟨r1247, hx1246, h⟩ := bind_some h
      refine Rg (kx (ldOA h1244 o1235 rfl rfl (ble rfl) rfl) (kx (ldOA h1240 o1230 rfl rfl (ble rfl) rfl) (kc (cl (v := .bool r1247) rfl (cns rfl (cns rfl rfl)) rfl (laws_eqBook_ok (Book.mk 0 ([] : List Int) ([] : List Tally)) (Book.mk r1130 r1131 r1132) _ hx1246) nm) (kx (uNot rfl) (kx (mvO rfl) ?_)))))
      rcases ite_some h with ⟨hb1248, h⟩ | ⟨hb1248, h⟩
      ·refine kx (guF rfl (congrArg Bool.not hb1248) (mvO h1245)) (kx (guF rfl (congrArg Bool.not hb1248) (mvO h1241)) (kx (guF rfl (congrArg Bool.not hb1248) (bNeq rfl rfl)) (kx (pkF rfl (congrArg Bool.not hb1248) rfl) (Rn (hA h1238 (hA h1239 (hA h1240 (hA h1241 (hA h1242 (hA h1243 (hA h1244 (hA h1245 (hN rfl hZ))))))))) fun e1249 h1251 h1252 h1253 h1254 h1255 h1256 h1257 h1258 h1259 => ?_))))
       clear h1238 h1239 h1240 h1241 h1242 h1243 h1244 h1245
       obtain rfl := si h
       exact kd (show laws_FnExactDoDeals_c9_Q a1 a2 r1130 r1131 r1132 r1147 r1148 r1149 r1184 r1206 (([] : Mem).length) M1137.length (M1137.length + 1) M1152.length M1170.length M1207.length _ _ from ⟨rfl, h1251, h1252, h1253, h1254, h1255, h1256, h1257, h1258, h1259, o1230, o1231, o1232, o1233, o1234, o1235⟩)
      refine kx (gsF rfl (congrArg Bool.not hb1248)) (kx (gsF rfl (congrArg Bool.not hb1248)) (kx (gsF rfl (congrArg Bool.not hb1248)) (kx (pkT rfl (congrArg Bool.not hb1248) rfl) (Rn (hA h1238 (hA h1239 (hA h1240 (hA h1241 (hA h1242 (hA h1243 (hA h1244 (hA h1245 (hV (.bool true) rfl hZ))))))))) fun e1260 h1262 h1263 h1264 h1265 h1266 h1267 h1268 h1269 h1270 => ?_))))
      clear h1238 h1239 h1240 h1241 h1242 h1243 h1244 h1245
      obtain rfl := si h
      exact kd (show laws_FnExactDoDeals_c9_Q a1 a2 r1130 r1131 r1132 r1147 r1148 r1149 r1184 r1206 (([] : Mem).length) M1137.length (M1137.length + 1) M1152.length M1170.length M1207.length _ _ from ⟨rfl, h1262, h1263, h1264, h1265, h1266, h1267, h1268, h1269, h1270, o1230, o1231, o1232, o1233, o1234, o1235⟩)) ?_
  revert h hr1680
  revert r1679
  intro y1273 hr1680 h
  intro x e1271 M1272 hq1678
  obtain ⟨rfl, h1274, h1275, h1276, h1277, h1278, h1279, h1280, h1281, h1282, o1283, o1284, o1285, o1286, o1287, o1288⟩ := hq1678
  refine sN ?_
  rcases ite_some h with ⟨hb1289, h⟩ | ⟨hb1289, h⟩
  ·refine cT h1282 hb1289 (sq (Rg (kx (mvO rfl) (Rn (hV (.bool false) rfl hZ) fun e1290 h1292 => sN (xx (sR ?_))))))
   clear h1274 h1275 h1276 h1277 h1278 h1279 h1280 h1281 h1282
   obtain rfl := si h
   exact eR (resT h1292 res0) rfl
  obtain ⟨⟨r1294, r1295, r1296⟩, hx1293, h⟩ := bind_some h
  obtain ⟨r1298, hx1297, h⟩ := bind_some h
  refine cF h1282 hb1289 (xx (sN (sq (sq (Rd (kf (ldOA h1278 o1286 rfl rfl (ble rfl) rfl) (kf (ldPA h1275 rfl rfl) (fc (cl (v := .agg [.int .i64 r1294, .sl (some 2) (r1295.map (cI .i64)), .sl (some 75) (r1296.map Tally.c)]) rfl (cns rfl rfl) rfl (laws_toBook_ok a1 _ hx1293) nm) (fc (cl (v := .bool r1298) rfl (cns rfl (cns rfl rfl)) (ra1 (ra_agg (mp1 rfl (mp1 (ra1_row o1284 rfl (cI_fl _)) (mp1 (ra1_row o1285 rfl Tally.fl) mp0)))) (ra1 rfl ra0)) (laws_eqBook_ok (Book.mk r1147 r1148 r1149) (Book.mk r1294 r1295 r1296) _ hx1297) (fun _ => rfl)) (kf (uNot rfl) (fZ (Rn (hV (.sl none (a2.map Deal.c)) h1274 (hV (.pt none [.int .i64 a1.Day, .sl none (a1.Cash.map (cI .i64)), .sl none (a1.Tallies.map Tally.c)]) h1275 (hV (.loc ([] : Mem).length 1 0 0) h1276 (hV (.int .i64 0) h1277 (hV (.loc M1152.length 1 0 0) h1278 (hV (.lsl M1170.length r1184.length 0 r1184.length) h1279 (hV (.loc M1207.length 1 0 0) h1280 (hV (.int .i64 r1206) h1281 (hN rfl hZ))))))))) fun e1299 h1301 h1302 h1303 h1304 h1305 h1306 h1307 h1308 h1309 => sN ?_))))))))))))
  clear h1274 h1275 h1276 h1277 h1278 h1279 h1280 h1281 h1282
  rcases ite_some h with ⟨hb1310, h⟩ | ⟨hb1310, h⟩
  ·obtain ⟨r1312, hx1311, h⟩ := bind_some h
   obtain ⟨r1314, hx1313, h⟩ := bind_some h
   refine cF h1309 (congrArg Bool.not hb1310) (xx (sN (sq (sq (Rg (kx (mvO h1306) (kx (mvO h1301) (kc (cl (v := .sl (some 65) (r1312.map Deal.c)) rfl (cns rfl rfl) rfl (laws_toDealS_ok a2 _ hx1311) nm) (kc (cl (v := .bool r1314) rfl (cns rfl (cns rfl rfl)) (ra1 (ra1_row o1287 rfl Deal.fl) (ra1 rfl ra0)) (laws_eqDealS_ok r1184 r1312 _ hx1313) (fun _ => rfl)) (kx (uNot rfl) (Rn (hA h1301 (hA h1302 (hA h1303 (hA h1304 (hA h1305 (hA h1306 (hA h1307 (hA h1308 (hN rfl hZ))))))))) fun e1315 h1317 h1318 h1319 h1320 h1321 h1322 h1323 h1324 h1325 => sN ?_)))))))))))
   clear h1301 h1302 h1303 h1304 h1305 h1306 h1307 h1308 h1309
   rcases ite_some h with ⟨hb1326, h⟩ | ⟨hb1326, h⟩
   ·obtain ⟨⟨r1339, r1340, r1341⟩, hx1338, h⟩ := bind_some h
    refine cF h1325 (congrArg Bool.not hb1326) (xx (sN (sq (Rg (kx (mvO rfl) (Rn (hA h1317 (hA h1318 (hA h1319 (hA h1320 (hA h1321 (hA h1322 (hA h1323 (hA h1324 (hV (.int .i64 1) rfl hZ))))))))) fun e1327 h1329 h1330 h1331 h1332 h1333 h1334 h1335 h1336 h1337 => sN (sq (Rg (kx (ldOA h1333 o1286 rfl rfl (ble rfl) rfl) (kx (mvO h1337) (Ev.nxw (Ev.callW rfl (cns rfl (cns rfl rfl)) (laws_markBook_ll_ok r1147 r1148 r1149 1 M1137.length (M1137.length + 1) ne1158 M1272 o1284 o1285 _ hx1338)) fun v1344 M1342 hq1343 => ?_)))))))))))
    clear h1317 h1318 h1319 h1320 h1321 h1322 h1323 h1324 h1325
    obtain ⟨hv1344, o1345, o1346, fr1347, hl1348, hl1349⟩ := hq1343
    have hv1344 : v1344 = .int .i64 r1339 := hv1344
    subst hv1344
    have o1350 : M1342[M1137.length]? = some (.live ⟨.grow, 2, 1, r1340.map (cI .i64)⟩) := o1345
    have o1351 : M1342[(M1137.length + 1)]? = some (.live ⟨.grow, 75, 5, r1341.map Tally.c⟩) := o1346
    have hl1348 : r1340.length = r1148.length := hl1348
    have hl1349 : r1341.length = r1149.length := hl1349
    have o1352 : M1342[([] : Mem).length]? = some (.live ⟨.box, 33, 3, [[.int .i64 r1130, .sl none (r1131.map (cI .i64)), .sl none (r1132.map Tally.c)]]⟩) := fr1347 _ _ (niC ne1155 (niC ne1157 niN)) o1283
    have o1353 : M1342[M1152.length]? = some (.live ⟨.box, 33, 3, [[.int .i64 r1147, .lsl M1137.length r1148.length 0 r1148.length, .lsl (M1137.length + 1) r1149.length 0 r1149.length]]⟩) := fr1347 _ _ (niC (Ne.symm ne1166) (niC (Ne.symm ne1168) niN)) o1286
    have o1354 : M1342[M1170.length]? = some (.live ⟨.grow, 65, 6, r1184.map Deal.c⟩) := fr1347 _ _ (niC (Ne.symm ne1193) (niC (Ne.symm ne1194) niN)) o1287
    have o1355 : M1342[M1207.length]? = some (.live ⟨.box, 33, 3, [[.int .i64 0, .nils, .nils]]⟩) := fr1347 _ _ (niC (Ne.symm ne1220) (niC (Ne.symm ne1222) niN)) o1288
    obtain ⟨⟨r1367, r1368⟩, hx1366, h⟩ := bind_some h
    refine kx (mvO rfl) (Rn (hA h1329 (hA h1330 (hA h1331 (hA h1332 (hA h1334 (hA h1335 (hA h1336 (hN rfl hZ)))))))) fun e1356 h1358 h1359 h1360 h1361 h1362 h1363 h1364 h1365 => sN (sq (Rg (kx (mvO h1362) (kx (mvO h1365) (Ev.nxw (Ev.callW rfl (cns rfl (cns rfl rfl)) (laws_markDealS_l_ok r1184 r1339 M1170.length M1342 o1354 _ hx1366)) fun v1371 M1369 hq1370 => ?_))))))
    clear h1329 h1330 h1331 h1332 h1333 h1334 h1335 h1336
    obtain ⟨hv1371, o1372, fr1373, hl1374⟩ := hq1370
    have hv1371 : v1371 = .int .i64 r1367 := hv1371
    subst hv1371
    have o1375 : M1369[M1170.length]? = some (.live ⟨.grow, 65, 6, r1368.map Deal.c⟩) := o1372
    have hl1374 : r1368.length = r1184.length := hl1374
    have o1376 : M1369[([] : Mem).length]? = some (.live ⟨.box, 33, 3, [[.int .i64 r1130, .sl none (r1131.map (cI .i64)), .sl none (r1132.map Tally.c)]]⟩) := fr1373 _ _ (niC ne1192 niN) o1352
    have o1377 : M1369[M1207.length]? = some (.live ⟨.box, 33, 3, [[.int .i64 0, .nils, .nils]]⟩) := fr1373 _ _ (niC (Ne.symm ne1226) niN) o1355
    obtain ⟨r1670, hr1671, h⟩ := bind_some h
    refine kx (mvO rfl) (Rn (hA h1358 (hA h1359 (hA h1360 (hA h1361 (hA h1363 (hA h1364 (hN rfl hZ))))))) fun e1378 h1380 h1381 h1382 h1383 h1384 h1385 h1386 => sN (sq (sq ?_)))
    clear h1358 h1359 h1360 h1361 h1362 h1363 h1364
    refine Ev.cut (Q1 := laws_FnExactDoDeals_c10_Q a1 a2 r1130 r1131 r1132 (([] : Mem).length) M1207.length r1670) (by
        have h := hr1671
        refine Rg (kx (mvO h1386) (kx (bLss rfl rfl) (kx (mvO rfl) ?_)))
        rcases ite_some h with ⟨hb1387, h⟩ | ⟨hb1387, h⟩
        ·refine kx (gsF rfl hb1387) (kx (gsF rfl hb1387) (kc (Ev.gsF rfl hb1387) (kx (gsF rfl hb1387) (kx (pkT rfl hb1387 rfl) (kx (mvO rfl) (kx (gsF rfl rfl) (kx (gsF rfl rfl) (kx (gsF rfl rfl) (kx (pkT rfl rfl rfl) (Rn (hA h1380 (hA h1381 (hA h1382 (hA h1383 (hA h1384 (hV (.bool true) rfl hZ)))))) fun e1388 h1390 h1391 h1392 h1393 h1394 h1395 => ?_))))))))))
         clear h1380 h1381 h1382 h1383 h1384 h1385 h1386
         obtain rfl := si h
         exact kd (show laws_FnExactDoDeals_c10_Q a1 a2 r1130 r1131 r1132 (([] : Mem).length) M1207.length _ _ from ⟨rfl, h1390, h1391, h1392, h1393, h1394, h1395, o1376, o1377⟩)
        obtain ⟨r1397, hx1396, h⟩ := bind_some h
        refine kx (guF rfl hb1387 (ldOA h1384 o1377 rfl rfl (ble rfl) rfl)) (kx (guF rfl hb1387 (ldOA h1382 o1376 rfl rfl (ble rfl) rfl)) (kc (Ev.guF rfl hb1387 (cl (v := .bool r1397) rfl (cns rfl (cns rfl rfl)) rfl (laws_eqBook_ok (Book.mk 0 ([] : List Int) ([] : List Tally)) (Book.mk r1130 r1131 r1132) _ hx1396) nm)) (kx (guF rfl hb1387 (uNot rfl)) (kx (pkF rfl hb1387 rfl) (kx (mvO rfl) ?_)))))
        rcases ite_some h with ⟨hb1398, h⟩ | ⟨hb1398, h⟩
        ·refine kx (guF rfl (congrArg Bool.not hb1398) (mvO h1385)) (kx (guF rfl (congrArg Bool.not hb1398) (mvO h1383)) (kx (guF rfl (congrArg Bool.not hb1398) (bNeq rfl rfl)) (kx (pkF rfl (congrArg Bool.not hb1398) rfl) (Rn (hA h1380 (hA h1381 (hA h1382 (hA h1383 (hA h1384 (hN rfl hZ)))))) fun e1399 h1401 h1402 h1403 h1404 h1405 h1406 => ?_))))
         clear h1380 h1381 h1382 h1383 h1384 h1385 h1386
         obtain rfl := si h
         exact kd (show laws_FnExactDoDeals_c10_Q a1 a2 r1130 r1131 r1132 (([] : Mem).length) M1207.length _ _ from ⟨rfl, h1401, h1402, h1403, h1404, h1405, h1406, o1376, o1377⟩)
        refine kx (gsF rfl (congrArg Bool.not hb1398)) (kx (gsF rfl (congrArg Bool.not hb1398)) (kx (gsF rfl (congrArg Bool.not hb1398)) (kx (pkT rfl (congrArg Bool.not hb1398) rfl) (Rn (hA h1380 (hA h1381 (hA h1382 (hA h1383 (hA h1384 (hV (.bool true) rfl hZ)))))) fun e1407 h1409 h1410 h1411 h1412 h1413 h1414 => ?_))))
        clear h1380 h1381 h1382 h1383 h1384 h1385 h1386
        obtain rfl := si h
        exact kd (show laws_FnExactDoDeals_c10_Q a1 a2 r1130 r1131 r1132 (([] : Mem).length) M1207.length _ _ from ⟨rfl, h1409, h1410, h1411, h1412, h1413, h1414, o1376, o1377⟩)) ?_
    revert h hr1671
    revert r1670
    intro y1417 hr1671 h
    intro x e1415 M1416 hq1669
    obtain ⟨rfl, h1418, h1419, h1420, h1421, h1422, h1423, o1424, o1425⟩ := hq1669
    refine sN ?_
    rcases ite_some h with ⟨hb1426, h⟩ | ⟨hb1426, h⟩
    ·refine cT h1423 hb1426 (sq (Rg (kx (mvO rfl) (Rn (hV (.bool false) rfl hZ) fun e1427 h1429 => sN (xx (sR ?_))))))
     clear h1418 h1419 h1420 h1421 h1422 h1423
     obtain rfl := si h
     exact eR (resT h1429 res0) rfl
    obtain ⟨r1439, hx1438, h⟩ := bind_some h
    refine cF h1423 hb1426 (xx (sN (sq (Rg (kx (mvO rfl) (Rn (hV (.sl none (a2.map Deal.c)) h1418 (hV (.pt none [.int .i64 a1.Day, .sl none (a1.Cash.map (cI .i64)), .sl none (a1.Tallies.map Tally.c)]) h1419 (hV (.loc ([] : Mem).length 1 0 0) h1420 (hV (.int .i64 0) h1421 (hV (.loc M1207.length 1 0 0) h1422 (hV (.int .i64 1) rfl hZ)))))) fun e1430 h1432 h1433 h1434 h1435 h1436 h1437 => sN (sq (Rg (kx (ldOA h1436 o1425 rfl rfl (ble rfl) rfl) (kx (mvO h1437) (Ev.nxw (Ev.callW rfl (cns rfl (cns rfl rfl)) (laws_markBook_nn_ok 0 1 M1416 _ hx1438)) fun v1442 M1440 hq1441 => ?_)))))))))))
    clear h1418 h1419 h1420 h1421 h1422 h1423
    obtain ⟨hv1442, fr1443⟩ := hq1441
    have hv1442 : v1442 = .int .i64 r1439 := hv1442
    subst hv1442
    have o1444 : M1440[([] : Mem).length]? = some (.live ⟨.box, 33, 3, [[.int .i64 r1130, .sl none (r1131.map (cI .i64)), .sl none (r1132.map Tally.c)]]⟩) := fr1443 _ _ niN o1424
    have o1445 : M1440[M1207.length]? = some (.live ⟨.box, 33, 3, [[.int .i64 0, .nils, .nils]]⟩) := fr1443 _ _ niN o1425
    obtain ⟨r1464, hx1463, h⟩ := bind_some h
    refine kx (mvO rfl) (Rn (hA h1432 (hA h1433 (hA h1434 (hA h1435 (hA h1436 (hN rfl hZ)))))) fun e1446 h1448 h1449 h1450 h1451 h1452 h1453 => sN (sq (Rg (kx (mvO rfl) (Rn (hA h1448 (hA h1449 (hA h1450 (hA h1451 (hA h1452 (hA h1453 (hV (.int .i64 1) rfl hZ))))))) fun e1454 h1456 h1457 h1458 h1459 h1460 h1461 h1462 => sN (sq (Rg (kx (ldOA h1460 o1445 rfl rfl (ble rfl) rfl) (kx (mvO h1462) (kc (cl (v := .int .i64 r1464) rfl (cns rfl (cns rfl rfl)) rfl (laws_heldBook_ok (Book.mk 0 ([] : List Int) ([] : List Tally)) 1 _ hx1463) nm) (kx (mvO rfl) (Rn (hA h1456 (hA h1457 (hA h1458 (hA h1459 (hA h1460 (hA h1461 (hN rfl hZ))))))) fun e1465 h1467 h1468 h1469 h1470 h1471 h1472 h1473 => sN (sq (sq (Rg (kx (mvO h1473) (kx (bLss rfl rfl) (Rn (hA h1467 (hA h1468 (hA h1469 (hA h1470 (hA h1471 (hA h1472 (hA h1473 (hN rfl hZ)))))))) fun e1474 h1476 h1477 h1478 h1479 h1480 h1481 h1482 h1483 => sN ?_))))))))))))))))))
    clear h1432 h1433 h1434 h1435 h1436 h1448 h1449 h1450 h1451 h1452 h1453 h1456 h1457 h1458 h1459 h1460 h1461 h1467 h1468 h1469 h1470 h1471 h1472 h1473
    rcases ite_some h with ⟨hb1484, h⟩ | ⟨hb1484, h⟩
    ·refine cT h1483 hb1484 (sq (Rg (kx (mvO rfl) (Rn (hV (.bool false) rfl hZ) fun e1485 h1487 => sN (xx (sR ?_))))))
     clear h1476 h1477 h1478 h1479 h1480 h1481 h1482 h1483
     obtain rfl := si h
     exact eR (resT h1487 res0) rfl
    refine cF h1483 hb1484 (xx (sN (sq (sq (Rg (kx (mvO h1482) (kx (mvO h1481) (kx (bNeq rfl rfl) (Rn (hA h1476 (hA h1477 (hA h1478 (hA h1479 (hA h1480 (hA h1481 (hN rfl hZ))))))) fun e1488 h1490 h1491 h1492 h1493 h1494 h1495 h1496 => sN ?_)))))))))
    clear h1476 h1477 h1478 h1479 h1480 h1481 h1482 h1483
    rcases ite_some h with ⟨hb1497, h⟩ | ⟨hb1497, h⟩
    ·refine cT h1496 hb1497 (sq (Rg (kx (mvO rfl) (Rn (hV (.bool false) rfl hZ) fun e1498 h1500 => sN (xx (sR ?_))))))
     clear h1490 h1491 h1492 h1493 h1494 h1495 h1496
     obtain rfl := si h
     exact eR (resT h1500 res0) rfl
    obtain ⟨⟨r1502, r1503, r1504⟩, hx1501, h⟩ := bind_some h
    obtain ⟨r1506, hx1505, h⟩ := bind_some h
    obtain ⟨q1668, hx1507, h⟩ := bind_some h
    refine cF h1496 hb1497 (xx (sN (sq (Rg (kx (ldPA h1491 rfl rfl) (kc (cl (v := .agg [.int .i64 r1502, .sl (some 2) (r1503.map (cI .i64)), .sl (some 75) (r1504.map Tally.c)]) rfl (cns rfl rfl) rfl (laws_toBook_ok a1 _ hx1501) nm) (kx (mvO h1490) (kc (cl (v := .sl (some 65) (r1506.map Deal.c)) rfl (cns rfl rfl) rfl (laws_toDealS_ok a2 _ hx1505) nm) ?_))))))))
    rcases q1668 with r1508 | ⟨r1587, r1588, r1589⟩
    ·refine kc (cl (v := .tup [.agg [.int .i64 0, .nils, .nils], .int .i64 r1508]) rfl (cns rfl (cns rfl rfl)) rfl (impl_DoDeals_ok (Book.mk r1502 r1503 r1504) r1506 _ hx1507) nm) (kx (mvO rfl) (kx (exT rfl rfl) (kx (exT rfl rfl) (ku (alO zero33) fun M1510 hM1511 => ?_))))
     have o1512 := push_old hM1511 o1444
     have ne1513 := ne_new o1444
     have o1514 := push_old hM1511 o1445
     have ne1515 := ne_new o1445
     have o1516 : M1510[M1440.length]? = some (.live ⟨.box, 33, 3, [[.int .i64 0, .nils, .nils]]⟩) := push_new hM1511
     refine kw (stO rfl rfl o1516 rfl rfl ⟨rfl, ble rfl⟩ rfl rfl) fun M1517 hM1518 => ?_
     have o1519 := set_ne hM1518 ne1513 o1512
     have o1520 := set_ne hM1518 ne1515 o1514
     have o1521 : M1517[M1440.length]? = some (.live ⟨.box, 33, 3, [[.int .i64 0, .nils, .nils]]⟩) := set_same hM1518 o1516
     obtain ⟨r1585, hr1586, h⟩ := bind_some h
     refine kx (mvO rfl) (Rn (hA h1492 (hA h1493 (hA h1494 (hA h1495 (hV (.loc M1440.length 1 0 0) rfl (hN rfl hZ)))))) fun e1522 h1524 h1525 h1526 h1527 h1528 h1529 => sN (sq (sq ?_)))
     clear h1490 h1491 h1492 h1493 h1494 h1495 h1496
     refine Ev.cut (Q1 := laws_FnExactDoDeals_c11_Q r1439 (([] : Mem).length) M1207.length M1440.length r1585) (by
         have h := hr1586
         obtain ⟨r1531, hx1530, h⟩ := bind_some h
         refine Rg (kx (ldOA h1528 o1521 rfl rfl (ble rfl) rfl) (kx (ldOA h1524 o1519 rfl rfl (ble rfl) rfl) (kc (cl (v := .bool r1531) rfl (cns rfl (cns rfl rfl)) rfl (laws_eqBook_ok (Book.mk 0 ([] : List Int) ([] : List Tally)) (Book.mk r1130 r1131 r1132) _ hx1530) nm) (kx (uNot rfl) (kx (mvO rfl) ?_)))))
         rcases ite_some h with ⟨hb1532, h⟩ | ⟨hb1532, h⟩
         ·refine kx (guF rfl (congrArg Bool.not hb1532) (mvO h1529)) (kx (guF rfl (congrArg Bool.not hb1532) (mvO h1525)) (kx (guF rfl (congrArg Bool.not hb1532) (bNeq rfl rfl)) (kx (pkF rfl (congrArg Bool.not hb1532) rfl) (Rn (hA h1526 (hA h1527 (hN rfl hZ))) fun e1533 h1535 h1536 h1537 => ?_))))
          clear h1524 h1525 h1526 h1527 h1528 h1529
          obtain rfl := si h
          exact kd (show laws_FnExactDoDeals_c11_Q r1439 (([] : Mem).length) M1207.length M1440.length _ _ from ⟨rfl, h1535, h1536, h1537, o1520⟩)
         refine kx (gsF rfl (congrArg Bool.not hb1532)) (kx (gsF rfl (congrArg Bool.not hb1532)) (kx (gsF rfl (congrArg Bool.not hb1532)) (kx (pkT rfl (congrArg Bool.not hb1532) rfl) (Rn (hA h1526 (hA h1527 (hV (.bool true) rfl hZ))) fun e1538 h1540 h1541 h1542 => ?_))))
         clear h1524 h1525 h1526 h1527 h1528 h1529
         obtain rfl := si h
         exact kd (show laws_FnExactDoDeals_c11_Q r1439 (([] : Mem).length) M1207.length M1440.length _ _ from ⟨rfl, h1540, h1541, h1542, o1520⟩)) ?_
     revert h hr1586
     revert r1585
     intro y1545 hr1586 h
     intro x e1543 M1544 hq1584
     obtain ⟨rfl, h1546, h1547, h1548, o1549⟩ := hq1584
     refine sN ?_
     rcases ite_some h with ⟨hb1550, h⟩ | ⟨hb1550, h⟩
     ·refine cT h1548 hb1550 (sq (Rg (kx (mvO rfl) (Rn (hV (.bool false) rfl hZ) fun e1551 h1553 => sN (xx (sR ?_))))))
      clear h1546 h1547 h1548
      obtain rfl := si h
      exact eR (resT h1553 res0) rfl
     obtain ⟨r1560, hx1559, h⟩ := bind_some h
     refine cF h1548 hb1550 (xx (sN (sq (Rg (kx (mvO rfl) (Rn (hV (.loc M1207.length 1 0 0) h1546 (hV (.int .i64 r1439) h1547 (hV (.int .i64 1) rfl hZ))) fun e1554 h1556 h1557 h1558 => sN (sq (Rg (kx (ldOA h1556 o1549 rfl rfl (ble rfl) rfl) (kx (mvO h1558) (kc (cl (v := .int .i64 r1560) rfl (cns rfl (cns rfl rfl)) rfl (laws_heldBook_ok (Book.mk 0 ([] : List Int) ([] : List Tally)) 1 _ hx1559) nm) (kx (mvO rfl) (Rn (hA h1557 (hN rfl hZ)) fun e1561 h1563 h1564 => sN (sq (sq (Rg (kx (mvO h1564) (kx (bLss rfl rfl) (Rn (hA h1563 (hA h1564 (hN rfl hZ))) fun e1565 h1567 h1568 h1569 => sN ?_)))))))))))))))))))
     clear h1546 h1547 h1548 h1556 h1557 h1563 h1564
     rcases ite_some h with ⟨hb1570, h⟩ | ⟨hb1570, h⟩
     ·refine cT h1569 hb1570 (sq (Rg (kx (mvO rfl) (Rn (hV (.bool false) rfl hZ) fun e1571 h1573 => sN (xx (sR ?_))))))
      clear h1567 h1568 h1569
      obtain rfl := si h
      exact eR (resT h1573 res0) rfl
     refine cF h1569 hb1570 (xx (sN (sq (sq (Rg (kx (mvO h1568) (kx (mvO h1567) (kx (bNeq rfl rfl) (Rn (hN rfl hZ) fun e1574 h1576 => sN ?_)))))))))
     clear h1567 h1568 h1569
     rcases ite_some h with ⟨hb1577, h⟩ | ⟨hb1577, h⟩
     ·refine cT h1576 hb1577 (sq (Rg (kx (mvO rfl) (Rn (hV (.bool false) rfl hZ) fun e1578 h1580 => sN (xx (sR ?_))))))
      clear h1576
      obtain rfl := si h
      exact eR (resT h1580 res0) rfl
     refine cF h1576 hb1577 (xx (sN (sq (Rg (kx (mvO rfl) (Rn (hV (.bool true) rfl hZ) fun e1581 h1583 => sN (xx ?_)))))))
     clear h1576
     obtain rfl := si h
     exact eR (resT h1583 res0) rfl
    refine kc (cl (v := .tup [.agg [.int .i64 r1587, .sl (some 2) (r1588.map (cI .i64)), .sl (some 75) (r1589.map Tally.c)], .int .i64 0]) rfl (cns rfl (cns rfl rfl)) rfl (impl_DoDeals_ok (Book.mk r1502 r1503 r1504) r1506 _ hx1507) nm) (kx (mvO rfl) (kx (exT rfl rfl) (kx (exT rfl rfl) (ku (alO zero33) fun M1591 hM1592 => ?_))))
    have o1593 := push_old hM1592 o1444
    have ne1594 := ne_new o1444
    have o1595 := push_old hM1592 o1445
    have ne1596 := ne_new o1445
    have o1597 : M1591[M1440.length]? = some (.live ⟨.box, 33, 3, [[.int .i64 0, .nils, .nils]]⟩) := push_new hM1592
    refine kw (stO rfl rfl o1597 rfl rfl ⟨rfl, ble rfl⟩ rfl rfl) fun M1598 hM1599 => ?_
    have o1600 := set_ne hM1599 ne1594 o1593
    have o1601 := set_ne hM1599 ne1596 o1595
    have o1602 : M1598[M1440.length]? = some (.live ⟨.box, 33, 3, [[.int .i64 r1587, .sl none (r1588.map (cI .i64)), .sl none (r1589.map Tally.c)]]⟩) := set_same hM1599 o1597
    obtain ⟨r1666, hr1667, h⟩ := bind_some h
    refine kx (mvO rfl) (Rn (hA h1492 (hA h1493 (hA h1494 (hA h1495 (hV (.loc M1440.length 1 0 0) rfl (hV (.int .i64 0) rfl hZ)))))) fun e1603 h1605 h1606 h1607 h1608 h1609 h1610 => sN (sq (sq ?_)))
    clear h1490 h1491 h1492 h1493 h1494 h1495 h1496
    refine Ev.cut (Q1 := laws_FnExactDoDeals_c12_Q r1439 (([] : Mem).length) M1207.length M1440.length r1666) (by
        have h := hr1667
        obtain ⟨r1612, hx1611, h⟩ := bind_some h
        refine Rg (kx (ldOA h1609 o1602 rfl rfl (ble rfl) rfl) (kx (ldOA h1605 o1600 rfl rfl (ble rfl) rfl) (kc (cl (v := .bool r1612) rfl (cns rfl (cns rfl rfl)) rfl (laws_eqBook_ok (Book.mk r1587 r1588 r1589) (Book.mk r1130 r1131 r1132) _ hx1611) nm) (kx (uNot rfl) (kx (mvO rfl) ?_)))))
        rcases ite_some h with ⟨hb1613, h⟩ | ⟨hb1613, h⟩
        ·refine kx (guF rfl (congrArg Bool.not hb1613) (mvO h1610)) (kx (guF rfl (congrArg Bool.not hb1613) (mvO h1606)) (kx (guF rfl (congrArg Bool.not hb1613) (bNeq rfl rfl)) (kx (pkF rfl (congrArg Bool.not hb1613) rfl) (Rn (hA h1607 (hA h1608 (hV (.bool false) rfl hZ))) fun e1614 h1616 h1617 h1618 => ?_))))
         clear h1605 h1606 h1607 h1608 h1609 h1610
         obtain rfl := si h
         exact kd (show laws_FnExactDoDeals_c12_Q r1439 (([] : Mem).length) M1207.length M1440.length _ _ from ⟨rfl, h1616, h1617, h1618, o1601⟩)
        refine kx (gsF rfl (congrArg Bool.not hb1613)) (kx (gsF rfl (congrArg Bool.not hb1613)) (kx (gsF rfl (congrArg Bool.not hb1613)) (kx (pkT rfl (congrArg Bool.not hb1613) rfl) (Rn (hA h1607 (hA h1608 (hV (.bool true) rfl hZ))) fun e1619 h1621 h1622 h1623 => ?_))))
        clear h1605 h1606 h1607 h1608 h1609 h1610
        obtain rfl := si h
        exact kd (show laws_FnExactDoDeals_c12_Q r1439 (([] : Mem).length) M1207.length M1440.length _ _ from ⟨rfl, h1621, h1622, h1623, o1601⟩)) ?_
    revert h hr1667
    revert r1666
    intro y1626 hr1667 h
    intro x e1624 M1625 hq1665
    obtain ⟨rfl, h1627, h1628, h1629, o1630⟩ := hq1665
    refine sN ?_
    rcases ite_some h with ⟨hb1631, h⟩ | ⟨hb1631, h⟩
    ·refine cT h1629 hb1631 (sq (Rg (kx (mvO rfl) (Rn (hV (.bool false) rfl hZ) fun e1632 h1634 => sN (xx (sR ?_))))))
     clear h1627 h1628 h1629
     obtain rfl := si h
     exact eR (resT h1634 res0) rfl
    obtain ⟨r1641, hx1640, h⟩ := bind_some h
    refine cF h1629 hb1631 (xx (sN (sq (Rg (kx (mvO rfl) (Rn (hV (.loc M1207.length 1 0 0) h1627 (hV (.int .i64 r1439) h1628 (hV (.int .i64 1) rfl hZ))) fun e1635 h1637 h1638 h1639 => sN (sq (Rg (kx (ldOA h1637 o1630 rfl rfl (ble rfl) rfl) (kx (mvO h1639) (kc (cl (v := .int .i64 r1641) rfl (cns rfl (cns rfl rfl)) rfl (laws_heldBook_ok (Book.mk 0 ([] : List Int) ([] : List Tally)) 1 _ hx1640) nm) (kx (mvO rfl) (Rn (hA h1638 (hN rfl hZ)) fun e1642 h1644 h1645 => sN (sq (sq (Rg (kx (mvO h1645) (kx (bLss rfl rfl) (Rn (hA h1644 (hA h1645 (hN rfl hZ))) fun e1646 h1648 h1649 h1650 => sN ?_)))))))))))))))))))
    clear h1627 h1628 h1629 h1637 h1638 h1644 h1645
    rcases ite_some h with ⟨hb1651, h⟩ | ⟨hb1651, h⟩
    ·refine cT h1650 hb1651 (sq (Rg (kx (mvO rfl) (Rn (hV (.bool false) rfl hZ) fun e1652 h1654 => sN (xx (sR ?_))))))
     clear h1648 h1649 h1650
     obtain rfl := si h
     exact eR (resT h1654 res0) rfl
    refine cF h1650 hb1651 (xx (sN (sq (sq (Rg (kx (mvO h1649) (kx (mvO h1648) (kx (bNeq rfl rfl) (Rn (hN rfl hZ) fun e1655 h1657 => sN ?_)))))))))
    clear h1648 h1649 h1650
    rcases ite_some h with ⟨hb1658, h⟩ | ⟨hb1658, h⟩
    ·refine cT h1657 hb1658 (sq (Rg (kx (mvO rfl) (Rn (hV (.bool false) rfl hZ) fun e1659 h1661 => sN (xx (sR ?_))))))
     clear h1657
     obtain rfl := si h
     exact eR (resT h1661 res0) rfl
    refine cF h1657 hb1658 (xx (sN (sq (Rg (kx (mvO rfl) (Rn (hV (.bool true) rfl hZ) fun e1662 h1664 => sN (xx ?_)))))))
    clear h1657
    obtain rfl := si h
    exact eR (resT h1664 res0) rfl
   refine cT h1325 (congrArg Bool.not hb1326) (sq (Rg (kx (mvO rfl) (Rn (hV (.bool false) rfl hZ) fun e1672 h1674 => sN (xx (sR ?_))))))
   clear h1317 h1318 h1319 h1320 h1321 h1322 h1323 h1324 h1325
   obtain rfl := si h
   exact eR (resT h1674 res0) rfl
  refine cT h1309 (congrArg Bool.not hb1310) (sq (Rg (kx (mvO rfl) (Rn (hV (.bool false) rfl hZ) fun e1675 h1677 => sN (xx (sR ?_))))))
  clear h1301 h1302 h1303 h1304 h1305 h1306 h1307 h1308 h1309
  obtain rfl := si h
  exact eR (resT h1677 res0) rfl
 refine Ev.nxcp (Ev.callT (v := .tup [.agg [.int .i64 r1681, .sl (some 2) (r1682.map (cI .i64)), .sl (some 75) (r1683.map Tally.c)], .int .i64 0]) rfl (cns rfl (cns rfl rfl)) (ra1 (ra_agg (mp1 rfl (mp1 (ra1_row o1189 rfl (cI_fl _)) (mp1 (ra1_row o1190 rfl Tally.fl) mp0)))) (ra1 (ra1_row o1196 rfl Deal.fl) ra0)) (impl_DoDeals_ok (Book.mk r1147 r1148 r1149) r1184 _ hx1205) (th_gen (v' := .tup [.agg [.int .i64 r1681, .lsl M1186.length r1682.length 0 r1682.length, .lsl (M1186.length + 1) r1683.length 0 r1683.length], .int .i64 0]) (l := [⟨.grow, 2, 1, r1682.map (cI .i64)⟩, ⟨.grow, 75, 5, r1683.map Tally.c⟩]) (own_tup (oa1 (own2_agg (oa1 rfl (oa1 (own1_row' (c := (cI .i64)) (fun _ => rfl)) (oa1 (own1_row' (c := Tally.c) Tally.flF) oa0)))) (oa1 rfl oa0))) (by simp [thaw, thaw2, thaw1, thawL, co2, co75]) rfl rfl)) fun M1686 hM1687 => ?_
 have o1688 := push_old hM1687 o1188
 have o1689 := push_old hM1687 o1189
 have o1690 := push_old hM1687 o1190
 have o1691 := push_old hM1687 o1191
 have o1692 := push_old hM1687 o1196
 have ne1693 : ([] : Mem).length ≠ M1186.length := by have := lt_of_get (M := M1186) o1188; omega
 have ne1694 : M1137.length ≠ M1186.length := by have := lt_of_get (M := M1186) o1189; omega
 have ne1695 : (M1137.length + 1) ≠ M1186.length := by have := lt_of_get (M := M1186) o1190; omega
 have ne1696 : M1152.length ≠ M1186.length := by have := lt_of_get (M := M1186) o1191; omega
 have ne1697 : M1170.length ≠ M1186.length := by have := lt_of_get (M := M1186) o1196; omega
 have o1698 : M1686[M1186.length]? = some (.live ⟨.grow, 2, 1, r1682.map (cI .i64)⟩) := push_at hM1687 0 rfl
 have ne1699 : ([] : Mem).length ≠ (M1186.length + 1) := by have := lt_of_get (M := M1186) o1188; omega
 have ne1700 : M1137.length ≠ (M1186.length + 1) := by have := lt_of_get (M := M1186) o1189; omega
 have ne1701 : (M1137.length + 1) ≠ (M1186.length + 1) := by have := lt_of_get (M := M1186) o1190; omega
 have ne1702 : M1152.length ≠ (M1186.length + 1) := by have := lt_of_get (M := M1186) o1191; omega
 have ne1703 : M1170.length ≠ (M1186.length + 1) := by have := lt_of_get (M := M1186) o1196; omega
 have ne1704 : M1186.length ≠ (M1186.length + 1) := by omega
 have o1705 : M1686[(M1186.length + 1)]? = some (.live ⟨.grow, 75, 5, r1683.map Tally.c⟩) := push_at hM1687 1 rfl
 refine kx (mvO rfl) (kx (exT rfl rfl) (kx (exT rfl rfl) (ku (alO zero33) fun M1707 hM1708 => ?_)))
 have o1709 := push_old hM1708 o1688
 have ne1710 := ne_new o1688
 have o1711 := push_old hM1708 o1689
 have ne1712 := ne_new o1689
 have o1713 := push_old hM1708 o1690
 have ne1714 := ne_new o1690
 have o1715 := push_old hM1708 o1691
 have ne1716 := ne_new o1691
 have o1717 := push_old hM1708 o1692
 have ne1718 := ne_new o1692
 have o1719 := push_old hM1708 o1698
 have ne1720 := ne_new o1698
 have o1721 := push_old hM1708 o1705
 have ne1722 := ne_new o1705
 have o1723 : M1707[M1686.length]? = some (.live ⟨.box, 33, 3, [[.int .i64 0, .nils, .nils]]⟩) := push_new hM1708
 refine kw (stO rfl rfl o1723 rfl rfl ⟨rfl, ble rfl⟩ (all1 rfl (all1 (okL o1719 (by simp)) (all1 (okL o1721 (by simp)) all0))) rfl) fun M1724 hM1725 => ?_
 have o1726 := set_ne hM1725 ne1710 o1709
 have o1727 := set_ne hM1725 ne1712 o1711
 have o1728 := set_ne hM1725 ne1714 o1713
 have o1729 := set_ne hM1725 ne1716 o1715
 have o1730 := set_ne hM1725 ne1718 o1717
 have o1731 := set_ne hM1725 ne1720 o1719
 have o1732 := set_ne hM1725 ne1722 o1721
 have o1733 : M1724[M1686.length]? = some (.live ⟨.box, 33, 3, [[.int .i64 r1681, .lsl M1186.length r1682.length 0 r1682.length, .lsl (M1186.length + 1) r1683.length 0 r1683.length]]⟩) := set_same hM1725 o1723
 obtain ⟨r2209, hr2210, h⟩ := bind_some h
 refine kx (mvO rfl) (Rn (hA h1199 (hA h1200 (hA h1201 (hA h1202 (hA h1203 (hA h1204 (hV (.loc M1686.length 1 0 0) rfl (hV (.int .i64 0) rfl hZ)))))))) fun e1734 h1736 h1737 h1738 h1739 h1740 h1741 h1742 h1743 => sN (sq (sq ?_)))
 clear h1199 h1200 h1201 h1202 h1203 h1204
 refine Ev.cut (Q1 := laws_FnExactDoDeals_c13_Q a1 a2 r1130 r1131 r1132 r1147 r1148 r1149 r1184 r1681 r1682 r1683 (([] : Mem).length) M1137.length (M1137.length + 1) M1152.length M1170.length M1186.length (M1186.length + 1) M1686.length r2209) (by
     have h := hr2210
     obtain ⟨r1745, hx1744, h⟩ := bind_some h
     refine Rg (kx (ldOA h1742 o1733 rfl rfl (ble rfl) rfl) (kx (ldOA h1738 o1726 rfl rfl (ble rfl) rfl) (kc (cl (v := .bool r1745) rfl (cns rfl (cns rfl rfl)) (ra1 (ra_agg (mp1 rfl (mp1 (ra1_row o1731 rfl (cI_fl _)) (mp1 (ra1_row o1732 rfl Tally.fl) mp0)))) (ra1 rfl ra0)) (laws_eqBook_ok (Book.mk r1681 r1682 r1683) (Book.mk r1130 r1131 r1132) _ hx1744) (fun _ => rfl)) (kx (uNot rfl) (kx (mvO rfl) ?_)))))
     rcases ite_some h with ⟨hb1746, h⟩ | ⟨hb1746, h⟩
     ·refine kx (guF rfl (congrArg Bool.not hb1746) (mvO h1743)) (kx (guF rfl (congrArg Bool.not hb1746) (mvO h1739)) (kx (guF rfl (congrArg Bool.not hb1746) (bNeq rfl rfl)) (kx (pkF rfl (congrArg Bool.not hb1746) rfl) (Rn (hA h1736 (hA h1737 (hA h1738 (hA h1739 (hA h1740 (hA h1741 (hA h1742 (hA h1743 (hV (.bool false) rfl hZ))))))))) fun e1747 h1749 h1750 h1751 h1752 h1753 h1754 h1755 h1756 h1757 => ?_))))
      clear h1736 h1737 h1738 h1739 h1740 h1741 h1742 h1743
      obtain rfl := si h
      exact kd (show laws_FnExactDoDeals_c13_Q a1 a2 r1130 r1131 r1132 r1147 r1148 r1149 r1184 r1681 r1682 r1683 (([] : Mem).length) M1137.length (M1137.length + 1) M1152.length M1170.length M1186.length (M1186.length + 1) M1686.length _ _ from ⟨rfl, h1749, h1750, h1751, h1752, h1753, h1754, h1755, h1756, h1757, o1726, o1727, o1728, o1729, o1730, o1731, o1732, o1733⟩)
     refine kx (gsF rfl (congrArg Bool.not hb1746)) (kx (gsF rfl (congrArg Bool.not hb1746)) (kx (gsF rfl (congrArg Bool.not hb1746)) (kx (pkT rfl (congrArg Bool.not hb1746) rfl) (Rn (hA h1736 (hA h1737 (hA h1738 (hA h1739 (hA h1740 (hA h1741 (hA h1742 (hA h1743 (hV (.bool true) rfl hZ))))))))) fun e1758 h1760 h1761 h1762 h1763 h1764 h1765 h1766 h1767 h1768 => ?_))))
     clear h1736 h1737 h1738 h1739 h1740 h1741 h1742 h1743
     obtain rfl := si h
     exact kd (show laws_FnExactDoDeals_c13_Q a1 a2 r1130 r1131 r1132 r1147 r1148 r1149 r1184 r1681 r1682 r1683 (([] : Mem).length) M1137.length (M1137.length + 1) M1152.length M1170.length M1186.length (M1186.length + 1) M1686.length _ _ from ⟨rfl, h1760, h1761, h1762, h1763, h1764, h1765, h1766, h1767, h1768, o1726, o1727, o1728, o1729, o1730, o1731, o1732, o1733⟩)) ?_
 revert h hr2210
 revert r2209
 intro y1771 hr2210 h
 intro x e1769 M1770 hq2208
 obtain ⟨rfl, h1772, h1773, h1774, h1775, h1776, h1777, h1778, h1779, h1780, o1781, o1782, o1783, o1784, o1785, o1786, o1787, o1788⟩ := hq2208
 refine sN ?_
 rcases ite_some h with ⟨hb1789, h⟩ | ⟨hb1789, h⟩
 ·refine cT h1780 hb1789 (sq (Rg (kx (mvO rfl) (Rn (hV (.bool false) rfl hZ) fun e1790 h1792 => sN (xx (sR ?_))))))
  clear h1772 h1773 h1774 h1775 h1776 h1777 h1778 h1779 h1780
  obtain rfl := si h
  exact eR (resT h1792 res0) rfl
 obtain ⟨⟨r1794, r1795, r1796⟩, hx1793, h⟩ := bind_some h
 obtain ⟨r1798, hx1797, h⟩ := bind_some h
 refine cF h1780 hb1789 (xx (sN (sq (sq (Rd (kf (ldOA h1776 o1784 rfl rfl (ble rfl) rfl) (kf (ldPA h1773 rfl rfl) (fc (cl (v := .agg [.int .i64 r1794, .sl (some 2) (r1795.map (cI .i64)), .sl (some 75) (r1796.map Tally.c)]) rfl (cns rfl rfl) rfl (laws_toBook_ok a1 _ hx1793) nm) (fc (cl (v := .bool r1798) rfl (cns rfl (cns rfl rfl)) (ra1 (ra_agg (mp1 rfl (mp1 (ra1_row o1782 rfl (cI_fl _)) (mp1 (ra1_row o1783 rfl Tally.fl) mp0)))) (ra1 rfl ra0)) (laws_eqBook_ok (Book.mk r1147 r1148 r1149) (Book.mk r1794 r1795 r1796) _ hx1797) (fun _ => rfl)) (kf (uNot rfl) (fZ (Rn (hV (.sl none (a2.map Deal.c)) h1772 (hV (.pt none [.int .i64 a1.Day, .sl none (a1.Cash.map (cI .i64)), .sl none (a1.Tallies.map Tally.c)]) h1773 (hV (.loc ([] : Mem).length 1 0 0) h1774 (hV (.int .i64 0) h1775 (hV (.loc M1152.length 1 0 0) h1776 (hV (.lsl M1170.length r1184.length 0 r1184.length) h1777 (hV (.loc M1686.length 1 0 0) h1778 (hV (.int .i64 0) h1779 (hN rfl hZ))))))))) fun e1799 h1801 h1802 h1803 h1804 h1805 h1806 h1807 h1808 h1809 => sN ?_))))))))))))
 clear h1772 h1773 h1774 h1775 h1776 h1777 h1778 h1779 h1780
 rcases ite_some h with ⟨hb1810, h⟩ | ⟨hb1810, h⟩
 ·obtain ⟨r1812, hx1811, h⟩ := bind_some h
  obtain ⟨r1814, hx1813, h⟩ := bind_some h
  refine cF h1809 (congrArg Bool.not hb1810) (xx (sN (sq (sq (Rg (kx (mvO h1806) (kx (mvO h1801) (kc (cl (v := .sl (some 65) (r1812.map Deal.c)) rfl (cns rfl rfl) rfl (laws_toDealS_ok a2 _ hx1811) nm) (kc (cl (v := .bool r1814) rfl (cns rfl (cns rfl rfl)) (ra1 (ra1_row o1785 rfl Deal.fl) (ra1 rfl ra0)) (laws_eqDealS_ok r1184 r1812 _ hx1813) (fun _ => rfl)) (kx (uNot rfl) (Rn (hA h1801 (hA h1802 (hA h1803 (hA h1804 (hA h1805 (hA h1806 (hA h1807 (hA h1808 (hN rfl hZ))))))))) fun e1815 h1817 h1818 h1819 h1820 h1821 h1822 h1823 h1824 h1825 => sN ?_)))))))))))
  clear h1801 h1802 h1803 h1804 h1805 h1806 h1807 h1808 h1809
  rcases ite_some h with ⟨hb1826, h⟩ | ⟨hb1826, h⟩
  ·obtain ⟨⟨r1839, r1840, r1841⟩, hx1838, h⟩ := bind_some h
   refine cF h1825 (congrArg Bool.not hb1826) (xx (sN (sq (Rg (kx (mvO rfl) (Rn (hA h1817 (hA h1818 (hA h1819 (hA h1820 (hA h1821 (hA h1822 (hA h1823 (hA h1824 (hV (.int .i64 1) rfl hZ))))))))) fun e1827 h1829 h1830 h1831 h1832 h1833 h1834 h1835 h1836 h1837 => sN (sq (Rg (kx (ldOA h1833 o1784 rfl rfl (ble rfl) rfl) (kx (mvO h1837) (Ev.nxw (Ev.callW rfl (cns rfl (cns rfl rfl)) (laws_markBook_ll_ok r1147 r1148 r1149 1 M1137.length (M1137.length + 1) ne1158 M1770 o1782 o1783 _ hx1838)) fun v1844 M1842 hq1843 => ?_)))))))))))
   clear h1817 h1818 h1819 h1820 h1821 h1822 h1823 h1824 h1825
   obtain ⟨hv1844, o1845, o1846, fr1847, hl1848, hl1849⟩ := hq1843
   have hv1844 : v1844 = .int .i64 r1839 := hv1844
   subst hv1844
   have o1850 : M1842[M1137.length]? = some (.live ⟨.grow, 2, 1, r1840.map (cI .i64)⟩) := o1845
   have o1851 : M1842[(M1137.length + 1)]? = some (.live ⟨.grow, 75, 5, r1841.map Tally.c⟩) := o1846
   have hl1848 : r1840.length = r1148.length := hl1848
   have hl1849 : r1841.length = r1149.length := hl1849
   have o1852 : M1842[([] : Mem).length]? = some (.live ⟨.box, 33, 3, [[.int .i64 r1130, .sl none (r1131.map (cI .i64)), .sl none (r1132.map Tally.c)]]⟩) := fr1847 _ _ (niC ne1155 (niC ne1157 niN)) o1781
   have o1853 : M1842[M1152.length]? = some (.live ⟨.box, 33, 3, [[.int .i64 r1147, .lsl M1137.length r1148.length 0 r1148.length, .lsl (M1137.length + 1) r1149.length 0 r1149.length]]⟩) := fr1847 _ _ (niC (Ne.symm ne1166) (niC (Ne.symm ne1168) niN)) o1784
   have o1854 : M1842[M1170.length]? = some (.live ⟨.grow, 65, 6, r1184.map Deal.c⟩) := fr1847 _ _ (niC (Ne.symm ne1193) (niC (Ne.symm ne1194) niN)) o1785
   have o1855 : M1842[M1186.length]? = some (.live ⟨.grow, 2, 1, r1682.map (cI .i64)⟩) := fr1847 _ _ (niC (Ne.symm ne1694) (niC (Ne.symm ne1695) niN)) o1786
   have o1856 : M1842[(M1186.length + 1)]? = some (.live ⟨.grow, 75, 5, r1683.map Tally.c⟩) := fr1847 _ _ (niC (Ne.symm ne1700) (niC (Ne.symm ne1701) niN)) o1787
   have o1857 : M1842[M1686.length]? = some (.live ⟨.box, 33, 3, [[.int .i64 r1681, .lsl M1186.length r1682.length 0 r1682.length, .lsl (M1186.length + 1) r1683.length 0 r1683.length]]⟩) := fr1847 _ _ (niC (Ne.symm ne1712) (niC (Ne.symm ne1714) niN)) o1788
   obtain ⟨⟨r1869, r1870⟩, hx1868, h⟩ := bind_some h
   refine kx (mvO rfl) (Rn (hA h1829 (hA h1830 (hA h1831 (hA h1832 (hA h1834 (hA h1835 (hA h1836 (hN rfl hZ)))))))) fun e1858 h1860 h1861 h1862 h1863 h1864 h1865 h1866 h1867 => sN (sq (Rg (kx (mvO h1864) (kx (mvO h1867) (Ev.nxw (Ev.callW rfl (cns rfl (cns rfl rfl)) (laws_markDealS_l_ok r1184 r1839 M1170.length M1842 o1854 _ hx1868)) fun v1873 M1871 hq1872 => ?_))))))
   clear h1829 h1830 h1831 h1832 h1833 h1834 h1835 h1836
   obtain ⟨hv1873, o1874, fr1875, hl1876⟩ := hq1872
   have hv1873 : v1873 = .int .i64 r1869 := hv1873
   subst hv1873
   have o1877 : M1871[M1170.length]? = some (.live ⟨.grow, 65, 6, r1870.map Deal.c⟩) := o1874
   have hl1876 : r1870.length = r1184.length := hl1876
   have o1878 : M1871[([] : Mem).length]? = some (.live ⟨.box, 33, 3, [[.int .i64 r1130, .sl none (r1131.map (cI .i64)), .sl none (r1132.map Tally.c)]]⟩) := fr1875 _ _ (niC ne1192 niN) o1852
   have o1879 : M1871[M1186.length]? = some (.live ⟨.grow, 2, 1, r1682.map (cI .i64)⟩) := fr1875 _ _ (niC (Ne.symm ne1697) niN) o1855
   have o1880 : M1871[(M1186.length + 1)]? = some (.live ⟨.grow, 75, 5, r1683.map Tally.c⟩) := fr1875 _ _ (niC (Ne.symm ne1703) niN) o1856
   have o1881 : M1871[M1686.length]? = some (.live ⟨.box, 33, 3, [[.int .i64 r1681, .lsl M1186.length r1682.length 0 r1682.length, .lsl (M1186.length + 1) r1683.length 0 r1683.length]]⟩) := fr1875 _ _ (niC (Ne.symm ne1718) niN) o1857
   obtain ⟨r2200, hr2201, h⟩ := bind_some h
   refine kx (mvO rfl) (Rn (hA h1860 (hA h1861 (hA h1862 (hA h1863 (hA h1865 (hA h1866 (hN rfl hZ))))))) fun e1882 h1884 h1885 h1886 h1887 h1888 h1889 h1890 => sN (sq (sq ?_)))
   clear h1860 h1861 h1862 h1863 h1864 h1865 h1866
   refine Ev.cut (Q1 := laws_FnExactDoDeals_c14_Q a1 a2 r1130 r1131 r1132 r1681 r1682 r1683 (([] : Mem).length) M1186.length (M1186.length + 1) M1686.length r2200) (by
       have h := hr2201
       refine Rg (kx (mvO h1890) (kx (bLss rfl rfl) (kx (mvO rfl) ?_)))
       rcases ite_some h with ⟨hb1891, h⟩ | ⟨hb1891, h⟩
       ·refine kx (gsF rfl hb1891) (kx (gsF rfl hb1891) (kc (Ev.gsF rfl hb1891) (kx (gsF rfl hb1891) (kx (pkT rfl hb1891 rfl) (kx (mvO rfl) (kx (gsF rfl rfl) (kx (gsF rfl rfl) (kx (gsF rfl rfl) (kx (pkT rfl rfl rfl) (Rn (hA h1884 (hA h1885 (hA h1886 (hA h1887 (hA h1888 (hV (.bool true) rfl hZ)))))) fun e1892 h1894 h1895 h1896 h1897 h1898 h1899 => ?_))))))))))
        clear h1884 h1885 h1886 h1887 h1888 h1889 h1890
        obtain rfl := si h
        exact kd (show laws_FnExactDoDeals_c14_Q a1 a2 r1130 r1131 r1132 r1681 r1682 r1683 (([] : Mem).length) M1186.length (M1186.length + 1) M1686.length _ _ from ⟨rfl, h1894, h1895, h1896, h1897, h1898, h1899, o1878, o1879, o1880, o1881⟩)
       obtain ⟨r1901, hx1900, h⟩ := bind_some h
       refine kx (guF rfl hb1891 (ldOA h1888 o1881 rfl rfl (ble rfl) rfl)) (kx (guF rfl hb1891 (ldOA h1886 o1878 rfl rfl (ble rfl) rfl)) (kc (Ev.guF rfl hb1891 (cl (v := .bool r1901) rfl (cns rfl (cns rfl rfl)) (ra1 (ra_agg (mp1 rfl (mp1 (ra1_row o1879 rfl (cI_fl _)) (mp1 (ra1_row o1880 rfl Tally.fl) mp0)))) (ra1 rfl ra0)) (laws_eqBook_ok (Book.mk r1681 r1682 r1683) (Book.mk r1130 r1131 r1132) _ hx1900) (fun _ => rfl))) (kx (guF rfl hb1891 (uNot rfl)) (kx (pkF rfl hb1891 rfl) (kx (mvO rfl) ?_)))))
       rcases ite_some h with ⟨hb1902, h⟩ | ⟨hb1902, h⟩
       ·refine kx (guF rfl (congrArg Bool.not hb1902) (mvO h1889)) (kx (guF rfl (congrArg Bool.not hb1902) (mvO h1887)) (kx (guF rfl (congrArg Bool.not hb1902) (bNeq rfl rfl)) (kx (pkF rfl (congrArg Bool.not hb1902) rfl) (Rn (hA h1884 (hA h1885 (hA h1886 (hA h1887 (hA h1888 (hV (.bool false) rfl hZ)))))) fun e1903 h1905 h1906 h1907 h1908 h1909 h1910 => ?_))))
        clear h1884 h1885 h1886 h1887 h1888 h1889 h1890
        obtain rfl := si h
        exact kd (show laws_FnExactDoDeals_c14_Q a1 a2 r1130 r1131 r1132 r1681 r1682 r1683 (([] : Mem).length) M1186.length (M1186.length + 1) M1686.length _ _ from ⟨rfl, h1905, h1906, h1907, h1908, h1909, h1910, o1878, o1879, o1880, o1881⟩)
       refine kx (gsF rfl (congrArg Bool.not hb1902)) (kx (gsF rfl (congrArg Bool.not hb1902)) (kx (gsF rfl (congrArg Bool.not hb1902)) (kx (pkT rfl (congrArg Bool.not hb1902) rfl) (Rn (hA h1884 (hA h1885 (hA h1886 (hA h1887 (hA h1888 (hV (.bool true) rfl hZ)))))) fun e1911 h1913 h1914 h1915 h1916 h1917 h1918 => ?_))))
       clear h1884 h1885 h1886 h1887 h1888 h1889 h1890
       obtain rfl := si h
       exact kd (show laws_FnExactDoDeals_c14_Q a1 a2 r1130 r1131 r1132 r1681 r1682 r1683 (([] : Mem).length) M1186.length (M1186.length + 1) M1686.length _ _ from ⟨rfl, h1913, h1914, h1915, h1916, h1917, h1918, o1878, o1879, o1880, o1881⟩)) ?_
   revert h hr2201
   revert r2200
   intro y1921 hr2201 h
   intro x e1919 M1920 hq2199
   obtain ⟨rfl, h1922, h1923, h1924, h1925, h1926, h1927, o1928, o1929, o1930, o1931⟩ := hq2199
   refine sN ?_
   rcases ite_some h with ⟨hb1932, h⟩ | ⟨hb1932, h⟩
   ·refine cT h1927 hb1932 (sq (Rg (kx (mvO rfl) (Rn (hV (.bool false) rfl hZ) fun e1933 h1935 => sN (xx (sR ?_))))))
    clear h1922 h1923 h1924 h1925 h1926 h1927
    obtain rfl := si h
    exact eR (resT h1935 res0) rfl
   obtain ⟨⟨r1945, r1946, r1947⟩, hx1944, h⟩ := bind_some h
   refine cF h1927 hb1932 (xx (sN (sq (Rg (kx (mvO rfl) (Rn (hV (.sl none (a2.map Deal.c)) h1922 (hV (.pt none [.int .i64 a1.Day, .sl none (a1.Cash.map (cI .i64)), .sl none (a1.Tallies.map Tally.c)]) h1923 (hV (.loc ([] : Mem).length 1 0 0) h1924 (hV (.int .i64 0) h1925 (hV (.loc M1686.length 1 0 0) h1926 (hV (.int .i64 1) rfl hZ)))))) fun e1936 h1938 h1939 h1940 h1941 h1942 h1943 => sN (sq (Rg (kx (ldOA h1942 o1931 rfl rfl (ble rfl) rfl) (kx (mvO h1943) (Ev.nxw (Ev.callW rfl (cns rfl (cns rfl rfl)) (laws_markBook_ll_ok r1681 r1682 r1683 1 M1186.length (M1186.length + 1) ne1704 M1920 o1929 o1930 _ hx1944)) fun v1950 M1948 hq1949 => ?_)))))))))))
   clear h1922 h1923 h1924 h1925 h1926 h1927
   obtain ⟨hv1950, o1951, o1952, fr1953, hl1954, hl1955⟩ := hq1949
   have hv1950 : v1950 = .int .i64 r1945 := hv1950
   subst hv1950
   have o1956 : M1948[M1186.length]? = some (.live ⟨.grow, 2, 1, r1946.map (cI .i64)⟩) := o1951
   have o1957 : M1948[(M1186.length + 1)]? = some (.live ⟨.grow, 75, 5, r1947.map Tally.c⟩) := o1952
   have hl1954 : r1946.length = r1682.length := hl1954
   have hl1955 : r1947.length = r1683.length := hl1955
   have o1958 : M1948[([] : Mem).length]? = some (.live ⟨.box, 33, 3, [[.int .i64 r1130, .sl none (r1131.map (cI .i64)), .sl none (r1132.map Tally.c)]]⟩) := fr1953 _ _ (niC ne1693 (niC ne1699 niN)) o1928
   have o1959 : M1948[M1686.length]? = some (.live ⟨.box, 33, 3, [[.int .i64 r1681, .lsl M1186.length r1682.length 0 r1682.length, .lsl (M1186.length + 1) r1683.length 0 r1683.length]]⟩) := fr1953 _ _ (niC (Ne.symm ne1720) (niC (Ne.symm ne1722) niN)) o1931
   obtain ⟨r1978, hx1977, h⟩ := bind_some h
   refine kx (mvO rfl) (Rn (hA h1938 (hA h1939 (hA h1940 (hA h1941 (hA h1942 (hN rfl hZ)))))) fun e1960 h1962 h1963 h1964 h1965 h1966 h1967 => sN (sq (Rg (kx (mvO rfl) (Rn (hA h1962 (hA h1963 (hA h1964 (hA h1965 (hA h1966 (hA h1967 (hV (.int .i64 1) rfl hZ))))))) fun e1968 h1970 h1971 h1972 h1973 h1974 h1975 h1976 => sN (sq (Rg (kx (ldOA h1974 o1959 rfl rfl (ble rfl) rfl) (kx (mvO h1976) (kc (cl (v := .int .i64 r1978) rfl (cns rfl (cns rfl rfl)) (ra1 (ra_agg (mp1 rfl (mp1 (ra1_row o1956 (by simp [hl1848, hl1849, hl1876, hl1954, hl1955]) (cI_fl _)) (mp1 (ra1_row o1957 (by simp [hl1848, hl1849, hl1876, hl1954, hl1955]) Tally.fl) mp0)))) (ra1 rfl ra0)) (laws_heldBook_ok (Book.mk r1681 r1946 r1947) 1 _ hx1977) (fun _ => rfl)) (kx (mvO rfl) (Rn (hA h1970 (hA h1971 (hA h1972 (hA h1973 (hA h1974 (hA h1975 (hN rfl hZ))))))) fun e1979 h1981 h1982 h1983 h1984 h1985 h1986 h1987 => sN (sq (sq (Rg (kx (mvO h1987) (kx (bLss rfl rfl) (Rn (hA h1981 (hA h1982 (hA h1983 (hA h1984 (hA h1985 (hA h1986 (hA h1987 (hN rfl hZ)))))))) fun e1988 h1990 h1991 h1992 h1993 h1994 h1995 h1996 h1997 => sN ?_))))))))))))))))))
   clear h1938 h1939 h1940 h1941 h1942 h1962 h1963 h1964 h1965 h1966 h1967 h1970 h1971 h1972 h1973 h1974 h1975 h1981 h1982 h1983 h1984 h1985 h1986 h1987
   rcases ite_some h with ⟨hb1998, h⟩ | ⟨hb1998, h⟩
   ·refine cT h1997 hb1998 (sq (Rg (kx (mvO rfl) (Rn (hV (.bool false) rfl hZ) fun e1999 h2001 => sN (xx (sR ?_))))))
    clear h1990 h1991 h1992 h1993 h1994 h1995 h1996 h1997
    obtain rfl := si h
    exact eR (resT h2001 res0) rfl
   refine cF h1997 hb1998 (xx (sN (sq (sq (Rg (kx (mvO h1996) (kx (mvO h1995) (kx (bNeq rfl rfl) (Rn (hA h1990 (hA h1991 (hA h1992 (hA h1993 (hA h1994 (hA h1995 (hN rfl hZ))))))) fun e2002 h2004 h2005 h2006 h2007 h2008 h2009 h2010 => sN ?_)))))))))
   clear h1990 h1991 h1992 h1993 h1994 h1995 h1996 h1997
   rcases ite_some h with ⟨hb2011, h⟩ | ⟨hb2011, h⟩
   ·refine cT h2010 hb2011 (sq (Rg (kx (mvO rfl) (Rn (hV (.bool false) rfl hZ) fun e2012 h2014 => sN (xx (sR ?_))))))
    clear h2004 h2005 h2006 h2007 h2008 h2009 h2010
    obtain rfl := si h
    exact eR (resT h2014 res0) rfl
   obtain ⟨⟨r2016, r2017, r2018⟩, hx2015, h⟩ := bind_some h
   obtain ⟨r2020, hx2019, h⟩ := bind_some h
   obtain ⟨q2198, hx2021, h⟩ := bind_some h
   refine cF h2010 hb2011 (xx (sN (sq (Rg (kx (ldPA h2005 rfl rfl) (kc (cl (v := .agg [.int .i64 r2016, .sl (some 2) (r2017.map (cI .i64)), .sl (some 75) (r2018.map Tally.c)]) rfl (cns rfl rfl) rfl (laws_toBook_ok a1 _ hx2015) nm) (kx (mvO h2004) (kc (cl (v := .sl (some 65) (r2020.map Deal.c)) rfl (cns rfl rfl) rfl (laws_toDealS_ok a2 _ hx2019) nm) ?_))))))))
   rcases q2198 with r2022 | ⟨r2109, r2110, r2111⟩
   ·refine kc (cl (v := .tup [.agg [.int .i64 0, .nils, .nils], .int .i64 r2022]) rfl (cns rfl (cns rfl rfl)) rfl (impl_DoDeals_ok (Book.mk r2016 r2017 r2018) r2020 _ hx2021) nm) (kx (mvO rfl) (kx (exT rfl rfl) (kx (exT rfl rfl) (ku (alO zero33) fun M2024 hM2025 => ?_))))
    have o2026 := push_old hM2025 o1958
    have ne2027 := ne_new o1958
    have o2028 := push_old hM2025 o1956
    have ne2029 := ne_new o1956
    have o2030 := push_old hM2025 o1957
    have ne2031 := ne_new o1957
    have o2032 := push_old hM2025 o1959
    have ne2033 := ne_new o1959
    have o2034 : M2024[M1948.length]? = some (.live ⟨.box, 33, 3, [[.int .i64 0, .nils, .nils]]⟩) := push_new hM2025
    refine kw (stO rfl rfl o2034 rfl rfl ⟨rfl, ble rfl⟩ rfl rfl) fun M2035 hM2036 => ?_
    have o2037 := set_ne hM2036 ne2027 o2026
    have o2038 := set_ne hM2036 ne2029 o2028
    have o2039 := set_ne hM2036 ne2031 o2030
    have o2040 := set_ne hM2036 ne2033 o2032
    have o2041 : M2035[M1948.length]? = some (.live ⟨.box, 33, 3, [[.int .i64 0, .nils, .nils]]⟩) := set_same hM2036 o2034
    obtain ⟨r2107, hr2108, h⟩ := bind_some h
    refine kx (mvO rfl) (Rn (hA h2006 (hA h2007 (hA h2008 (hA h2009 (hV (.loc M1948.length 1 0 0) rfl (hN rfl hZ)))))) fun e2042 h2044 h2045 h2046 h2047 h2048 h2049 => sN (sq (sq ?_)))
    clear h2004 h2005 h2006 h2007 h2008 h2009 h2010
    refine Ev.cut (Q1 := laws_FnExactDoDeals_c15_Q r1681 r1682 r1683 r1945 r1946 r1947 (([] : Mem).length) M1186.length (M1186.length + 1) M1686.length M1948.length r2107) (by
        have h := hr2108
        obtain ⟨r2051, hx2050, h⟩ := bind_some h
        refine Rg (kx (ldOA h2048 o2041 rfl rfl (ble rfl) rfl) (kx (ldOA h2044 o2037 rfl rfl (ble rfl) rfl) (kc (cl (v := .bool r2051) rfl (cns rfl (cns rfl rfl)) rfl (laws_eqBook_ok (Book.mk 0 ([] : List Int) ([] : List Tally)) (Book.mk r1130 r1131 r1132) _ hx2050) nm) (kx (uNot rfl) (kx (mvO rfl) ?_)))))
        rcases ite_some h with ⟨hb2052, h⟩ | ⟨hb2052, h⟩
        ·refine kx (guF rfl (congrArg Bool.not hb2052) (mvO h2049)) (kx (guF rfl (congrArg Bool.not hb2052) (mvO h2045)) (kx (guF rfl (congrArg Bool.not hb2052) (bNeq rfl rfl)) (kx (pkF rfl (congrArg Bool.not hb2052) rfl) (Rn (hA h2046 (hA h2047 (hN rfl hZ))) fun e2053 h2055 h2056 h2057 => ?_))))
         clear h2044 h2045 h2046 h2047 h2048 h2049
         obtain rfl := si h
         exact kd (show laws_FnExactDoDeals_c15_Q r1681 r1682 r1683 r1945 r1946 r1947 (([] : Mem).length) M1186.length (M1186.length + 1) M1686.length M1948.length _ _ from ⟨rfl, h2055, h2056, h2057, o2038, o2039, o2040⟩)
        refine kx (gsF rfl (congrArg Bool.not hb2052)) (kx (gsF rfl (congrArg Bool.not hb2052)) (kx (gsF rfl (congrArg Bool.not hb2052)) (kx (pkT rfl (congrArg Bool.not hb2052) rfl) (Rn (hA h2046 (hA h2047 (hV (.bool true) rfl hZ))) fun e2058 h2060 h2061 h2062 => ?_))))
        clear h2044 h2045 h2046 h2047 h2048 h2049
        obtain rfl := si h
        exact kd (show laws_FnExactDoDeals_c15_Q r1681 r1682 r1683 r1945 r1946 r1947 (([] : Mem).length) M1186.length (M1186.length + 1) M1686.length M1948.length _ _ from ⟨rfl, h2060, h2061, h2062, o2038, o2039, o2040⟩)) ?_
    revert h hr2108
    revert r2107
    intro y2065 hr2108 h
    intro x e2063 M2064 hq2106
    obtain ⟨rfl, h2066, h2067, h2068, o2069, o2070, o2071⟩ := hq2106
    refine sN ?_
    rcases ite_some h with ⟨hb2072, h⟩ | ⟨hb2072, h⟩
    ·refine cT h2068 hb2072 (sq (Rg (kx (mvO rfl) (Rn (hV (.bool false) rfl hZ) fun e2073 h2075 => sN (xx (sR ?_))))))
     clear h2066 h2067 h2068
     obtain rfl := si h
     exact eR (resT h2075 res0) rfl
    obtain ⟨r2082, hx2081, h⟩ := bind_some h
    refine cF h2068 hb2072 (xx (sN (sq (Rg (kx (mvO rfl) (Rn (hV (.loc M1686.length 1 0 0) h2066 (hV (.int .i64 r1945) h2067 (hV (.int .i64 1) rfl hZ))) fun e2076 h2078 h2079 h2080 => sN (sq (Rg (kx (ldOA h2078 o2071 rfl rfl (ble rfl) rfl) (kx (mvO h2080) (kc (cl (v := .int .i64 r2082) rfl (cns rfl (cns rfl rfl)) (ra1 (ra_agg (mp1 rfl (mp1 (ra1_row o2069 (by simp [hl1848, hl1849, hl1876, hl1954, hl1955]) (cI_fl _)) (mp1 (ra1_row o2070 (by simp [hl1848, hl1849, hl1876, hl1954, hl1955]) Tally.fl) mp0)))) (ra1 rfl ra0)) (laws_heldBook_ok (Book.mk r1681 r1946 r1947) 1 _ hx2081) (fun _ => rfl)) (kx (mvO rfl) (Rn (hA h2079 (hN rfl hZ)) fun e2083 h2085 h2086 => sN (sq (sq (Rg (kx (mvO h2086) (kx (bLss rfl rfl) (Rn (hA h2085 (hA h2086 (hN rfl hZ))) fun e2087 h2089 h2090 h2091 => sN ?_)))))))))))))))))))
    clear h2066 h2067 h2068 h2078 h2079 h2085 h2086
    rcases ite_some h with ⟨hb2092, h⟩ | ⟨hb2092, h⟩
    ·refine cT h2091 hb2092 (sq (Rg (kx (mvO rfl) (Rn (hV (.bool false) rfl hZ) fun e2093 h2095 => sN (xx (sR ?_))))))
     clear h2089 h2090 h2091
     obtain rfl := si h
     exact eR (resT h2095 res0) rfl
    refine cF h2091 hb2092 (xx (sN (sq (sq (Rg (kx (mvO h2090) (kx (mvO h2089) (kx (bNeq rfl rfl) (Rn (hN rfl hZ) fun e2096 h2098 => sN ?_)))))))))
    clear h2089 h2090 h2091
    rcases ite_some h with ⟨hb2099, h⟩ | ⟨hb2099, h⟩
    ·refine cT h2098 hb2099 (sq (Rg (kx (mvO rfl) (Rn (hV (.bool false) rfl hZ) fun e2100 h2102 => sN (xx (sR ?_))))))
     clear h2098
     obtain rfl := si h
     exact eR (resT h2102 res0) rfl
    refine cF h2098 hb2099 (xx (sN (sq (Rg (kx (mvO rfl) (Rn (hV (.bool true) rfl hZ) fun e2103 h2105 => sN (xx ?_)))))))
    clear h2098
    obtain rfl := si h
    exact eR (resT h2105 res0) rfl
   refine kc (cl (v := .tup [.agg [.int .i64 r2109, .sl (some 2) (r2110.map (cI .i64)), .sl (some 75) (r2111.map Tally.c)], .int .i64 0]) rfl (cns rfl (cns rfl rfl)) rfl (impl_DoDeals_ok (Book.mk r2016 r2017 r2018) r2020 _ hx2021) nm) (kx (mvO rfl) (kx (exT rfl rfl) (kx (exT rfl rfl) (ku (alO zero33) fun M2113 hM2114 => ?_))))
   have o2115 := push_old hM2114 o1958
   have ne2116 := ne_new o1958
   have o2117 := push_old hM2114 o1956
   have ne2118 := ne_new o1956
   have o2119 := push_old hM2114 o1957
   have ne2120 := ne_new o1957
   have o2121 := push_old hM2114 o1959
   have ne2122 := ne_new o1959
   have o2123 : M2113[M1948.length]? = some (.live ⟨.box, 33, 3, [[.int .i64 0, .nils, .nils]]⟩) := push_new hM2114
   refine kw (stO rfl rfl o2123 rfl rfl ⟨rfl, ble rfl⟩ rfl rfl) fun M2124 hM2125 => ?_
   have o2126 := set_ne hM2125 ne2116 o2115
   have o2127 := set_ne hM2125 ne2118 o2117
   have o2128 := set_ne hM2125 ne2120 o2119
   have o2129 := set_ne hM2125 ne2122 o2121
   have o2130 : M2124[M1948.length]? = some (.live ⟨.box, 33, 3, [[.int .i64 r2109, .sl none (r2110.map (cI .i64)), .sl none (r2111.map Tally.c)]]⟩) := set_same hM2125 o2123
   obtain ⟨r2196, hr2197, h⟩ := bind_some h
   refine kx (mvO rfl) (Rn (hA h2006 (hA h2007 (hA h2008 (hA h2009 (hV (.loc M1948.length 1 0 0) rfl (hV (.int .i64 0) rfl hZ)))))) fun e2131 h2133 h2134 h2135 h2136 h2137 h2138 => sN (sq (sq ?_)))
   clear h2004 h2005 h2006 h2007 h2008 h2009 h2010
   refine Ev.cut (Q1 := laws_FnExactDoDeals_c16_Q r1681 r1682 r1683 r1945 r1946 r1947 (([] : Mem).length) M1186.length (M1186.length + 1) M1686.length M1948.length r2196) (by
       have h := hr2197
       obtain ⟨r2140, hx2139, h⟩ := bind_some h
       refine Rg (kx (ldOA h2137 o2130 rfl rfl (ble rfl) rfl) (kx (ldOA h2133 o2126 rfl rfl (ble rfl) rfl) (kc (cl (v := .bool r2140) rfl (cns rfl (cns rfl rfl)) rfl (laws_eqBook_ok (Book.mk r2109 r2110 r2111) (Book.mk r1130 r1131 r1132) _ hx2139) nm) (kx (uNot rfl) (kx (mvO rfl) ?_)))))
       rcases ite_some h with ⟨hb2141, h⟩ | ⟨hb2141, h⟩
       ·refine kx (guF rfl (congrArg Bool.not hb2141) (mvO h2138)) (kx (guF rfl (congrArg Bool.not hb2141) (mvO h2134)) (kx (guF rfl (congrArg Bool.not hb2141) (bNeq rfl rfl)) (kx (pkF rfl (congrArg Bool.not hb2141) rfl) (Rn (hA h2135 (hA h2136 (hV (.bool false) rfl hZ))) fun e2142 h2144 h2145 h2146 => ?_))))
        clear h2133 h2134 h2135 h2136 h2137 h2138
        obtain rfl := si h
        exact kd (show laws_FnExactDoDeals_c16_Q r1681 r1682 r1683 r1945 r1946 r1947 (([] : Mem).length) M1186.length (M1186.length + 1) M1686.length M1948.length _ _ from ⟨rfl, h2144, h2145, h2146, o2127, o2128, o2129⟩)
       refine kx (gsF rfl (congrArg Bool.not hb2141)) (kx (gsF rfl (congrArg Bool.not hb2141)) (kx (gsF rfl (congrArg Bool.not hb2141)) (kx (pkT rfl (congrArg Bool.not hb2141) rfl) (Rn (hA h2135 (hA h2136 (hV (.bool true) rfl hZ))) fun e2147 h2149 h2150 h2151 => ?_))))
       clear h2133 h2134 h2135 h2136 h2137 h2138
       obtain rfl := si h
       exact kd (show laws_FnExactDoDeals_c16_Q r1681 r1682 r1683 r1945 r1946 r1947 (([] : Mem).length) M1186.length (M1186.length + 1) M1686.length M1948.length _ _ from ⟨rfl, h2149, h2150, h2151, o2127, o2128, o2129⟩)) ?_
   revert h hr2197
   revert r2196
   intro y2154 hr2197 h
   intro x e2152 M2153 hq2195
   obtain ⟨rfl, h2155, h2156, h2157, o2158, o2159, o2160⟩ := hq2195
   refine sN ?_
   rcases ite_some h with ⟨hb2161, h⟩ | ⟨hb2161, h⟩
   ·refine cT h2157 hb2161 (sq (Rg (kx (mvO rfl) (Rn (hV (.bool false) rfl hZ) fun e2162 h2164 => sN (xx (sR ?_))))))
    clear h2155 h2156 h2157
    obtain rfl := si h
    exact eR (resT h2164 res0) rfl
   obtain ⟨r2171, hx2170, h⟩ := bind_some h
   refine cF h2157 hb2161 (xx (sN (sq (Rg (kx (mvO rfl) (Rn (hV (.loc M1686.length 1 0 0) h2155 (hV (.int .i64 r1945) h2156 (hV (.int .i64 1) rfl hZ))) fun e2165 h2167 h2168 h2169 => sN (sq (Rg (kx (ldOA h2167 o2160 rfl rfl (ble rfl) rfl) (kx (mvO h2169) (kc (cl (v := .int .i64 r2171) rfl (cns rfl (cns rfl rfl)) (ra1 (ra_agg (mp1 rfl (mp1 (ra1_row o2158 (by simp [hl1848, hl1849, hl1876, hl1954, hl1955]) (cI_fl _)) (mp1 (ra1_row o2159 (by simp [hl1848, hl1849, hl1876, hl1954, hl1955]) Tally.fl) mp0)))) (ra1 rfl ra0)) (laws_heldBook_ok (Book.mk r1681 r1946 r1947) 1 _ hx2170) (fun _ => rfl)) (kx (mvO rfl) (Rn (hA h2168 (hN rfl hZ)) fun e2172 h2174 h2175 => sN (sq (sq (Rg (kx (mvO h2175) (kx (bLss rfl rfl) (Rn (hA h2174 (hA h2175 (hN rfl hZ))) fun e2176 h2178 h2179 h2180 => sN ?_)))))))))))))))))))
   clear h2155 h2156 h2157 h2167 h2168 h2174 h2175
   rcases ite_some h with ⟨hb2181, h⟩ | ⟨hb2181, h⟩
   ·refine cT h2180 hb2181 (sq (Rg (kx (mvO rfl) (Rn (hV (.bool false) rfl hZ) fun e2182 h2184 => sN (xx (sR ?_))))))
    clear h2178 h2179 h2180
    obtain rfl := si h
    exact eR (resT h2184 res0) rfl
   refine cF h2180 hb2181 (xx (sN (sq (sq (Rg (kx (mvO h2179) (kx (mvO h2178) (kx (bNeq rfl rfl) (Rn (hN rfl hZ) fun e2185 h2187 => sN ?_)))))))))
   clear h2178 h2179 h2180
   rcases ite_some h with ⟨hb2188, h⟩ | ⟨hb2188, h⟩
   ·refine cT h2187 hb2188 (sq (Rg (kx (mvO rfl) (Rn (hV (.bool false) rfl hZ) fun e2189 h2191 => sN (xx (sR ?_))))))
    clear h2187
    obtain rfl := si h
    exact eR (resT h2191 res0) rfl
   refine cF h2187 hb2188 (xx (sN (sq (Rg (kx (mvO rfl) (Rn (hV (.bool true) rfl hZ) fun e2192 h2194 => sN (xx ?_)))))))
   clear h2187
   obtain rfl := si h
   exact eR (resT h2194 res0) rfl
  refine cT h1825 (congrArg Bool.not hb1826) (sq (Rg (kx (mvO rfl) (Rn (hV (.bool false) rfl hZ) fun e2202 h2204 => sN (xx (sR ?_))))))
  clear h1817 h1818 h1819 h1820 h1821 h1822 h1823 h1824 h1825
  obtain rfl := si h
  exact eR (resT h2204 res0) rfl
 refine cT h1809 (congrArg Bool.not hb1810) (sq (Rg (kx (mvO rfl) (Rn (hV (.bool false) rfl hZ) fun e2205 h2207 => sN (xx (sR ?_))))))
 clear h1801 h1802 h1803 h1804 h1805 h1806 h1807 h1808 h1809
 obtain rfl := si h
 exact eR (resT h2207 res0) rfl
end Go.Proofs.Ytpdmcpnabjifhaa
