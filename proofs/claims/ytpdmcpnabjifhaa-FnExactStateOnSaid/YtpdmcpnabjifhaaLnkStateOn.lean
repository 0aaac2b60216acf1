/- Printed by a program of ours (ext.py). -/
import Derived.Test.YtpdmcpnabjifhaaLnkStateOnx1
set_option linter.unusedVariables false
set_option linter.unusedSimpArgs false
set_option maxRecDepth 100000
set_option maxHeartbeats 2000000
namespace Go.Proofs.Ytpdmcpnabjifhaa
open Go Go.Ab
/-! ### loop.example/g01263/laws.FnExactStateOn (f7) -/
def laws_FnExactStateOn_c1_Q (a1 : Book) (a2 : List Deal) (a3 : Int) (r56 : Int) (r72 : Int) (r73 : List Int) (r74 : List Tally) (r110 : List Deal) (r133 : Int) (r134 : Int) (i901_1 : Nat) (i901_2 : Nat) (i901_3 : Nat) (i901_4 : Nat) (i901_5 : Nat) (i901_6 : Nat) (g : Bool) (q : Out) : Prop := q.1 = .nrm ∧ eget q.2.1 1 = .sl none (a2.map Deal.c) ∧ eget q.2.1 2 = .int .i64 a3 ∧ eget q.2.1 3 = .pt none [.int .i64 a1.Day, .sl none (a1.Cash.map (cI .i64)), .sl none (a1.Tallies.map Tally.c)] ∧ eget q.2.1 8 = .loc i901_1 1 0 0 ∧ eget q.2.1 9 = .int .i64 r56 ∧ eget q.2.1 10 = .loc i901_4 1 0 0 ∧ eget q.2.1 11 = .lsl i901_5 r110.length 0 r110.length ∧ eget q.2.1 12 = .loc i901_6 1 0 0 ∧ eget q.2.1 13 = .int .i64 r134 ∧ eget q.2.1 57 = .bool g ∧ q.2.2[i901_5]? = some (.live ⟨.grow, 65, 6, r110.map Deal.c⟩) ∧ q.2.2[i901_6]? = some (.live ⟨.box, 33, 3, [[.int .i64 r133, .nils, .nils]]⟩) ∧ q.2.2[i901_1]? = some (.live ⟨.box, 33, 3, [[.int .i64 0, .nils, .nils]]⟩) ∧ q.2.2[i901_2]? = some (.live ⟨.grow, 2, 1, r73.map (cI .i64)⟩) ∧ q.2.2[(i901_2 + 1)]? = some (.live ⟨.grow, 75, 5, r74.map Tally.c⟩) ∧ q.2.2[i901_4]? = some (.live ⟨.box, 33, 3, [[.int .i64 r72, .lsl i901_2 r73.length 0 r73.length, .lsl (i901_2 + 1) r74.length 0 r74.length]]⟩)
def laws_FnExactStateOn_c2_Q (a1 : Book) (a2 : List Deal) (a3 : Int) (r56 : Int) (r133 : Int) (i902_1 : Nat) (i902_2 : Nat) (g : Bool) (q : Out) : Prop := q.1 = .nrm ∧ eget q.2.1 1 = .sl none (a2.map Deal.c) ∧ eget q.2.1 2 = .int .i64 a3 ∧ eget q.2.1 3 = .pt none [.int .i64 a1.Day, .sl none (a1.Cash.map (cI .i64)), .sl none (a1.Tallies.map Tally.c)] ∧ eget q.2.1 8 = .loc i902_2 1 0 0 ∧ eget q.2.1 9 = .int .i64 r56 ∧ eget q.2.1 12 = .loc i902_1 1 0 0 ∧ eget q.2.1 86 = .bool g ∧ q.2.2[i902_1]? = some (.live ⟨.box, 33, 3, [[.int .i64 r133, .nils, .nils]]⟩) ∧ q.2.2[i902_2]? = some (.live ⟨.box, 33, 3, [[.int .i64 0, .nils, .nils]]⟩)
def laws_FnExactStateOn_c3_Q (r133 : Int) (r381 : Int) (i903_1 : Nat) (i903_2 : Nat) (i903_3 : Nat) (g : Bool) (q : Out) : Prop := q.1 = .nrm ∧ eget q.2.1 12 = .loc i903_1 1 0 0 ∧ eget q.2.1 15 = .int .i64 r381 ∧ eget q.2.1 115 = .bool g ∧ q.2.2[i903_1]? = some (.live ⟨.box, 33, 3, [[.int .i64 r133, .nils, .nils]]⟩)
def laws_FnExactStateOn_c4_Q (r133 : Int) (r381 : Int) (i904_1 : Nat) (i904_2 : Nat) (i904_3 : Nat) (g : Bool) (q : Out) : Prop := q.1 = .nrm ∧ eget q.2.1 12 = .loc i904_1 1 0 0 ∧ eget q.2.1 15 = .int .i64 r381 ∧ eget q.2.1 115 = .bool g ∧ q.2.2[i904_1]? = some (.live ⟨.box, 33, 3, [[.int .i64 r133, .nils, .nils]]⟩)
def laws_FnExactStateOn_c5_Q (a1 : Book) (a2 : List Deal) (a3 : Int) (r56 : Int) (r72 : Int) (r73 : List Int) (r74 : List Tally) (r110 : List Deal) (r629 : Int) (r630 : List Int) (r631 : List Tally) (i905_1 : Nat) (i905_2 : Nat) (i905_3 : Nat) (i905_4 : Nat) (i905_5 : Nat) (i905_6 : Nat) (i905_7 : Nat) (i905_8 : Nat) (g : Bool) (q : Out) : Prop := q.1 = .nrm ∧ eget q.2.1 1 = .sl none (a2.map Deal.c) ∧ eget q.2.1 2 = .int .i64 a3 ∧ eget q.2.1 3 = .pt none [.int .i64 a1.Day, .sl none (a1.Cash.map (cI .i64)), .sl none (a1.Tallies.map Tally.c)] ∧ eget q.2.1 8 = .loc i905_1 1 0 0 ∧ eget q.2.1 9 = .int .i64 r56 ∧ eget q.2.1 10 = .loc i905_4 1 0 0 ∧ eget q.2.1 11 = .lsl i905_5 r110.length 0 r110.length ∧ eget q.2.1 12 = .loc i905_8 1 0 0 ∧ eget q.2.1 13 = .int .i64 0 ∧ eget q.2.1 57 = .bool g ∧ q.2.2[i905_5]? = some (.live ⟨.grow, 65, 6, r110.map Deal.c⟩) ∧ q.2.2[i905_1]? = some (.live ⟨.box, 33, 3, [[.int .i64 0, .nils, .nils]]⟩) ∧ q.2.2[i905_6]? = some (.live ⟨.grow, 2, 1, r630.map (cI .i64)⟩) ∧ q.2.2[(i905_6 + 1)]? = some (.live ⟨.grow, 75, 5, r631.map Tally.c⟩) ∧ q.2.2[i905_8]? = some (.live ⟨.box, 33, 3, [[.int .i64 r629, .lsl i905_6 r630.length 0 r630.length, .lsl (i905_6 + 1) r631.length 0 r631.length]]⟩) ∧ q.2.2[i905_2]? = some (.live ⟨.grow, 2, 1, r73.map (cI .i64)⟩) ∧ q.2.2[(i905_2 + 1)]? = some (.live ⟨.grow, 75, 5, r74.map Tally.c⟩) ∧ q.2.2[i905_4]? = some (.live ⟨.box, 33, 3, [[.int .i64 r72, .lsl i905_2 r73.length 0 r73.length, .lsl (i905_2 + 1) r74.length 0 r74.length]]⟩)
def laws_FnExactStateOn_c6_Q (a1 : Book) (a2 : List Deal) (a3 : Int) (r56 : Int) (r629 : Int) (r630 : List Int) (r631 : List Tally) (i906_1 : Nat) (i906_2 : Nat) (i906_3 : Nat) (i906_4 : Nat) (g : Bool) (q : Out) : Prop := q.1 = .nrm ∧ eget q.2.1 1 = .sl none (a2.map Deal.c) ∧ eget q.2.1 2 = .int .i64 a3 ∧ eget q.2.1 3 = .pt none [.int .i64 a1.Day, .sl none (a1.Cash.map (cI .i64)), .sl none (a1.Tallies.map Tally.c)] ∧ eget q.2.1 8 = .loc i906_1 1 0 0 ∧ eget q.2.1 9 = .int .i64 r56 ∧ eget q.2.1 12 = .loc i906_4 1 0 0 ∧ eget q.2.1 86 = .bool g ∧ q.2.2[i906_1]? = some (.live ⟨.box, 33, 3, [[.int .i64 0, .nils, .nils]]⟩) ∧ q.2.2[i906_2]? = some (.live ⟨.grow, 2, 1, r630.map (cI .i64)⟩) ∧ q.2.2[(i906_2 + 1)]? = some (.live ⟨.grow, 75, 5, r631.map Tally.c⟩) ∧ q.2.2[i906_4]? = some (.live ⟨.box, 33, 3, [[.int .i64 r629, .lsl i906_2 r630.length 0 r630.length, .lsl (i906_2 + 1) r631.length 0 r631.length]]⟩)
def laws_FnExactStateOn_c7_Q (r629 : Int) (r630 : List Int) (r631 : List Tally) (r907 : Int) (r908 : List Int) (r909 : List Tally) (i907_1 : Nat) (i907_2 : Nat) (i907_3 : Nat) (i907_4 : Nat) (i907_5 : Nat) (g : Bool) (q : Out) : Prop := q.1 = .nrm ∧ eget q.2.1 12 = .loc i907_4 1 0 0 ∧ eget q.2.1 15 = .int .i64 r907 ∧ eget q.2.1 115 = .bool g ∧ q.2.2[i907_2]? = some (.live ⟨.grow, 2, 1, r908.map (cI .i64)⟩) ∧ q.2.2[(i907_2 + 1)]? = some (.live ⟨.grow, 75, 5, r909.map Tally.c⟩) ∧ q.2.2[i907_4]? = some (.live ⟨.box, 33, 3, [[.int .i64 r629, .lsl i907_2 r630.length 0 r630.length, .lsl (i907_2 + 1) r631.length 0 r631.length]]⟩)
def laws_FnExactStateOn_c8_Q (r629 : Int) (r630 : List Int) (r631 : List Tally) (r907 : Int) (r908 : List Int) (r909 : List Tally) (i908_1 : Nat) (i908_2 : Nat) (i908_3 : Nat) (i908_4 : Nat) (i908_5 : Nat) (g : Bool) (q : Out) : Prop := q.1 = .nrm ∧ eget q.2.1 12 = .loc i908_4 1 0 0 ∧ eget q.2.1 15 = .int .i64 r907 ∧ eget q.2.1 115 = .bool g ∧ q.2.2[i908_2]? = some (.live ⟨.grow, 2, 1, r908.map (cI .i64)⟩) ∧ q.2.2[(i908_2 + 1)]? = some (.live ⟨.grow, 75, 5, r909.map Tally.c⟩) ∧ q.2.2[i908_4]? = some (.live ⟨.box, 33, 3, [[.int .i64 r629, .lsl i908_2 r630.length 0 r630.length, .lsl (i908_2 + 1) r631.length 0 r631.length]]⟩)
def laws_FnExactStateOn_c9_Q (a1 : Book) (a2 : List Deal) (a3 : Int) (r1180 : Int) (r1181 : List Int) (r1182 : List Tally) (r1198 : Int) (r1199 : List Int) (r1200 : List Tally) (r1236 : List Deal) (r1259 : Int) (r1260 : Int) (i909_1 : Nat) (i909_2 : Nat) (i909_3 : Nat) (i909_4 : Nat) (i909_5 : Nat) (i909_6 : Nat) (g : Bool) (q : Out) : Prop := q.1 = .nrm ∧ eget q.2.1 1 = .sl none (a2.map Deal.c) ∧ eget q.2.1 2 = .int .i64 a3 ∧ eget q.2.1 3 = .pt none [.int .i64 a1.Day, .sl none (a1.Cash.map (cI .i64)), .sl none (a1.Tallies.map Tally.c)] ∧ eget q.2.1 8 = .loc i909_1 1 0 0 ∧ eget q.2.1 9 = .int .i64 0 ∧ eget q.2.1 10 = .loc i909_4 1 0 0 ∧ eget q.2.1 11 = .lsl i909_5 r1236.length 0 r1236.length ∧ eget q.2.1 12 = .loc i909_6 1 0 0 ∧ eget q.2.1 13 = .int .i64 r1260 ∧ eget q.2.1 57 = .bool g ∧ q.2.2[i909_1]? = some (.live ⟨.box, 33, 3, [[.int .i64 r1180, .sl none (r1181.map (cI .i64)), .sl none (r1182.map Tally.c)]]⟩) ∧ q.2.2[i909_2]? = some (.live ⟨.grow, 2, 1, r1199.map (cI .i64)⟩) ∧ q.2.2[(i909_2 + 1)]? = some (.live ⟨.grow, 75, 5, r1200.map Tally.c⟩) ∧ q.2.2[i909_4]? = some (.live ⟨.box, 33, 3, [[.int .i64 r1198, .lsl i909_2 r1199.length 0 r1199.length, .lsl (i909_2 + 1) r1200.length 0 r1200.length]]⟩) ∧ q.2.2[i909_5]? = some (.live ⟨.grow, 65, 6, r1236.map Deal.c⟩) ∧ q.2.2[i909_6]? = some (.live ⟨.box, 33, 3, [[.int .i64 r1259, .nils, .nils]]⟩)
def laws_FnExactStateOn_c10_Q (a1 : Book) (a2 : List Deal) (a3 : Int) (r1180 : Int) (r1181 : List Int) (r1182 : List Tally) (r1259 : Int) (i910_1 : Nat) (i910_2 : Nat) (g : Bool) (q : Out) : Prop := q.1 = .nrm ∧ eget q.2.1 1 = .sl none (a2.map Deal.c) ∧ eget q.2.1 2 = .int .i64 a3 ∧ eget q.2.1 3 = .pt none [.int .i64 a1.Day, .sl none (a1.Cash.map (cI .i64)), .sl none (a1.Tallies.map Tally.c)] ∧ eget q.2.1 8 = .loc i910_1 1 0 0 ∧ eget q.2.1 9 = .int .i64 0 ∧ eget q.2.1 12 = .loc i910_2 1 0 0 ∧ eget q.2.1 86 = .bool g ∧ q.2.2[i910_1]? = some (.live ⟨.box, 33, 3, [[.int .i64 r1180, .sl none (r1181.map (cI .i64)), .sl none (r1182.map Tally.c)]]⟩) ∧ q.2.2[i910_2]? = some (.live ⟨.box, 33, 3, [[.int .i64 r1259, .nils, .nils]]⟩)
def laws_FnExactStateOn_c11_Q (r1259 : Int) (r1507 : Int) (i911_1 : Nat) (i911_2 : Nat) (i911_3 : Nat) (g : Bool) (q : Out) : Prop := q.1 = .nrm ∧ eget q.2.1 12 = .loc i911_2 1 0 0 ∧ eget q.2.1 15 = .int .i64 r1507 ∧ eget q.2.1 115 = .bool g ∧ q.2.2[i911_2]? = some (.live ⟨.box, 33, 3, [[.int .i64 r1259, .nils, .nils]]⟩)
def laws_FnExactStateOn_c12_Q (r1259 : Int) (r1507 : Int) (i912_1 : Nat) (i912_2 : Nat) (i912_3 : Nat) (g : Bool) (q : Out) : Prop := q.1 = .nrm ∧ eget q.2.1 12 = .loc i912_2 1 0 0 ∧ eget q.2.1 15 = .int .i64 r1507 ∧ eget q.2.1 115 = .bool g ∧ q.2.2[i912_2]? = some (.live ⟨.box, 33, 3, [[.int .i64 r1259, .nils, .nils]]⟩)
def laws_FnExactStateOn_c13_Q (a1 : Book) (a2 : List Deal) (a3 : Int) (r1180 : Int) (r1181 : List Int) (r1182 : List Tally) (r1198 : Int) (r1199 : List Int) (r1200 : List Tally) (r1236 : List Deal) (r1755 : Int) (r1756 : List Int) (r1757 : List Tally) (i913_1 : Nat) (i913_2 : Nat) (i913_3 : Nat) (i913_4 : Nat) (i913_5 : Nat) (i913_6 : Nat) (i913_7 : Nat) (i913_8 : Nat) (g : Bool) (q : Out) : Prop := q.1 = .nrm ∧ eget q.2.1 1 = .sl none (a2.map Deal.c) ∧ eget q.2.1 2 = .int .i64 a3 ∧ eget q.2.1 3 = .pt none [.int .i64 a1.Day, .sl none (a1.Cash.map (cI .i64)), .sl none (a1.Tallies.map Tally.c)] ∧ eget q.2.1 8 = .loc i913_1 1 0 0 ∧ eget q.2.1 9 = .int .i64 0 ∧ eget q.2.1 10 = .loc i913_4 1 0 0 ∧ eget q.2.1 11 = .lsl i913_5 r1236.length 0 r1236.length ∧ eget q.2.1 12 = .loc i913_8 1 0 0 ∧ eget q.2.1 13 = .int .i64 0 ∧ eget q.2.1 57 = .bool g ∧ q.2.2[i913_1]? = some (.live ⟨.box, 33, 3, [[.int .i64 r1180, .sl none (r1181.map (cI .i64)), .sl none (r1182.map Tally.c)]]⟩) ∧ q.2.2[i913_2]? = some (.live ⟨.grow, 2, 1, r1199.map (cI .i64)⟩) ∧ q.2.2[(i913_2 + 1)]? = some (.live ⟨.grow, 75, 5, r1200.map Tally.c⟩) ∧ q.2.2[i913_4]? = some (.live ⟨.box, 33, 3, [[.int .i64 r1198, .lsl i913_2 r1199.length 0 r1199.length, .lsl (i913_2 + 1) r1200.length 0 r1200.length]]⟩) ∧ q.2.2[i913_5]? = some (.live ⟨.grow, 65, 6, r1236.map Deal.c⟩) ∧ q.2.2[i913_6]? = some (.live ⟨.grow, 2, 1, r1756.map (cI .i64)⟩) ∧ q.2.2[(i913_6 + 1)]? = some (.live ⟨.grow, 75, 5, r1757.map Tally.c⟩) ∧ q.2.2[i913_8]? = some (.live ⟨.box, 33, 3, [[.int .i64 r1755, .lsl i913_6 r1756.length 0 r1756.length, .lsl (i913_6 + 1) r1757.length 0 r1757.length]]⟩)
def laws_FnExactStateOn_c14_Q (a1 : Book) (a2 : List Deal) (a3 : Int) (r1180 : Int) (r1181 : List Int) (r1182 : List Tally) (r1755 : Int) (r1756 : List Int) (r1757 : List Tally) (i914_1 : Nat) (i914_2 : Nat) (i914_3 : Nat) (i914_4 : Nat) (g : Bool) (q : Out) : Prop := q.1 = .nrm ∧ eget q.2.1 1 = .sl none (a2.map Deal.c) ∧ eget q.2.1 2 = .int .i64 a3 ∧ eget q.2.1 3 = .pt none [.int .i64 a1.Day, .sl none (a1.Cash.map (cI .i64)), .sl none (a1.Tallies.map Tally.c)] ∧ eget q.2.1 8 = .loc i914_1 1 0 0 ∧ eget q.2.1 9 = .int .i64 0 ∧ eget q.2.1 12 = .loc i914_4 1 0 0 ∧ eget q.2.1 86 = .bool g ∧ q.2.2[i914_1]? = some (.live ⟨.box, 33, 3, [[.int .i64 r1180, .sl none (r1181.map (cI .i64)), .sl none (r1182.map Tally.c)]]⟩) ∧ q.2.2[i914_2]? = some (.live ⟨.grow, 2, 1, r1756.map (cI .i64)⟩) ∧ q.2.2[(i914_2 + 1)]? = some (.live ⟨.grow, 75, 5, r1757.map Tally.c⟩) ∧ q.2.2[i914_4]? = some (.live ⟨.box, 33, 3, [[.int .i64 r1755, .lsl i914_2 r1756.length 0 r1756.length, .lsl (i914_2 + 1) r1757.length 0 r1757.length]]⟩)
def laws_FnExactStateOn_c15_Q (r1755 : Int) (r1756 : List Int) (r1757 : List Tally) (r2033 : Int) (r2034 : List Int) (r2035 : List Tally) (i915_1 : Nat) (i915_2 : Nat) (i915_3 : Nat) (i915_4 : Nat) (i915_5 : Nat) (g : Bool) (q : Out) : Prop := q.1 = .nrm ∧ eget q.2.1 12 = .loc i915_4 1 0 0 ∧ eget q.2.1 15 = .int .i64 r2033 ∧ eget q.2.1 115 = .bool g ∧ q.2.2[i915_2]? = some (.live ⟨.grow, 2, 1, r2034.map (cI .i64)⟩) ∧ q.2.2[(i915_2 + 1)]? = some (.live ⟨.grow, 75, 5, r2035.map Tally.c⟩) ∧ q.2.2[i915_4]? = some (.live ⟨.box, 33, 3, [[.int .i64 r1755, .lsl i915_2 r1756.length 0 r1756.length, .lsl (i915_2 + 1) r1757.length 0 r1757.length]]⟩)
def laws_FnExactStateOn_c16_Q (r1755 : Int) (r1756 : List Int) (r1757 : List Tally) (r2033 : Int) (r2034 : List Int) (r2035 : List Tally) (i916_1 : Nat) (i916_2 : Nat) (i916_3 : Nat) (i916_4 : Nat) (i916_5 : Nat) (g : Bool) (q : Out) : Prop := q.1 = .nrm ∧ eget q.2.1 12 = .loc i916_4 1 0 0 ∧ eget q.2.1 15 = .int .i64 r2033 ∧ eget q.2.1 115 = .bool g ∧ q.2.2[i916_2]? = some (.live ⟨.grow, 2, 1, r2034.map (cI .i64)⟩) ∧ q.2.2[(i916_2 + 1)]? = some (.live ⟨.grow, 75, 5, r2035.map Tally.c⟩) ∧ q.2.2[i916_4]? = some (.live ⟨.box, 33, 3, [[.int .i64 r1755, .lsl i916_2 r1756.length 0 r1756.length, .lsl (i916_2 + 1) r1757.length 0 r1757.length]]⟩)
noncomputable def laws_FnExactStateOn (a1 : Book) (a2 : List Deal) (a3 : Int) : Option Bool :=
 (laws_szBook a1 1048576).bind fun r13 =>
 if (decide (r13 < 0)) = true then
  some true
 else
  (laws_szDealS a2 r13).bind fun r32 =>
  if (decide (r32 < 0)) = true then
   some true
  else
   (laws_toBook a1).bind fun (r50, r51, r52) =>
   (laws_toDealS a2).bind fun r54 =>
   (spec_StateOn (Book.mk r50 r51 r52) r54 a3).bind fun r => match r with
   | (.inl r56) =>
    (laws_toBook a1).bind fun (r72, r73, r74) =>
    (laws_toDealS a2).bind fun r110 =>
    (impl_StateOn (Book.mk r72 r73 r74) r110 a3).bind fun r => match r with
    | (.inl (r133, r134)) =>
     ((laws_eqBook (Book.mk r133 ([] : List Int) ([] : List Tally)) (Book.mk 0 ([] : List Int) ([] : List Tally))).bind fun r176 =>
     if r176 = true then
      some (r134 != r56)
     else
      some true).bind fun y204 =>
     if y204 = true then
      some false
     else
      (laws_toBook a1).bind fun (r226, r227, r228) =>
      (laws_eqBook (Book.mk r72 r73 r74) (Book.mk r226 r227 r228)).bind fun r230 =>
      if r230 = true then
       (laws_toDealS a2).bind fun r245 =>
       (laws_eqDealS r110 r245).bind fun r247 =>
       if r247 = true then
        (laws_markBook_ll r72 r73 r74 1).bind fun (r274, r275, r276) =>
        (laws_markDealS_l r110 r274).bind fun (r303, r304) =>
        (if (decide (r303 < 0)) = true then
         some true
        else
         (laws_eqBook (Book.mk r133 ([] : List Int) ([] : List Tally)) (Book.mk 0 ([] : List Int) ([] : List Tally))).bind fun r335 =>
         if r335 = true then
          some (r134 != r56)
         else
          some true).bind fun y357 =>
        if y357 = true then
         some false
        else
         (laws_markBook_nn r133 1).bind fun r381 =>
         (laws_heldBook (Book.mk r133 ([] : List Int) ([] : List Tally)) 1).bind fun r408 =>
         if (decide (r408 < 0)) = true then
          some false
         else
          if (r408 != r381) = true then
           some false
          else
           (laws_toBook a1).bind fun (r449, r450, r451) =>
           (laws_toDealS a2).bind fun r453 =>
           (impl_StateOn (Book.mk r449 r450 r451) r453 a3).bind fun r => match r with
           | (.inl (r455, r456)) =>
            ((laws_eqBook (Book.mk r455 ([] : List Int) ([] : List Tally)) (Book.mk 0 ([] : List Int) ([] : List Tally))).bind fun r479 =>
            if r479 = true then
             some (r456 != r56)
            else
             some true).bind fun y493 =>
            if y493 = true then
             some false
            else
             (laws_heldBook (Book.mk r133 ([] : List Int) ([] : List Tally)) 1).bind fun r508 =>
             if (decide (r508 < 0)) = true then
              some false
             else
              if (r508 != r381) = true then
               some false
              else
               some true
           | (.inr (r535, r536, r537)) =>
            ((laws_eqBook (Book.mk r535 r536 r537) (Book.mk 0 ([] : List Int) ([] : List Tally))).bind fun r560 =>
            if r560 = true then
             some (0 != r56)
            else
             some true).bind fun y574 =>
            if y574 = true then
             some false
            else
             (laws_heldBook (Book.mk r133 ([] : List Int) ([] : List Tally)) 1).bind fun r589 =>
             if (decide (r589 < 0)) = true then
              some false
             else
              if (r589 != r381) = true then
               some false
              else
               some true
       else
        some false
      else
       some false
    | (.inr (r629, r630, r631)) =>
     ((laws_eqBook (Book.mk r629 r630 r631) (Book.mk 0 ([] : List Int) ([] : List Tally))).bind fun r694 =>
     if r694 = true then
      some (0 != r56)
     else
      some true).bind fun y722 =>
     if y722 = true then
      some false
     else
      (laws_toBook a1).bind fun (r746, r747, r748) =>
      (laws_eqBook (Book.mk r72 r73 r74) (Book.mk r746 r747 r748)).bind fun r750 =>
      if r750 = true then
       (laws_toDealS a2).bind fun r765 =>
       (laws_eqDealS r110 r765).bind fun r767 =>
       if r767 = true then
        (laws_markBook_ll r72 r73 r74 1).bind fun (r794, r795, r796) =>
        (laws_markDealS_l r110 r794).bind fun (r825, r826) =>
        (if (decide (r825 < 0)) = true then
         some true
        else
         (laws_eqBook (Book.mk r629 r630 r631) (Book.mk 0 ([] : List Int) ([] : List Tally))).bind fun r859 =>
         if r859 = true then
          some (0 != r56)
         else
          some true).bind fun y881 =>
        if y881 = true then
         some false
        else
         (laws_markBook_ll r629 r630 r631 1).bind fun (r907, r908, r909) =>
         (laws_heldBook (Book.mk r629 r908 r909) 1).bind fun r942 =>
         if (decide (r942 < 0)) = true then
          some false
         else
          if (r942 != r907) = true then
           some false
          else
           (laws_toBook a1).bind fun (r983, r984, r985) =>
           (laws_toDealS a2).bind fun r987 =>
           (impl_StateOn (Book.mk r983 r984 r985) r987 a3).bind fun r => match r with
           | (.inl (r989, r990)) =>
            ((laws_eqBook (Book.mk r989 ([] : List Int) ([] : List Tally)) (Book.mk 0 ([] : List Int) ([] : List Tally))).bind fun r1019 =>
            if r1019 = true then
             some (r990 != r56)
            else
             some true).bind fun y1033 =>
            if y1033 = true then
             some false
            else
             (laws_heldBook (Book.mk r629 r908 r909) 1).bind fun r1050 =>
             if (decide (r1050 < 0)) = true then
              some false
             else
              if (r1050 != r907) = true then
               some false
              else
               some true
           | (.inr (r1077, r1078, r1079)) =>
            ((laws_eqBook (Book.mk r1077 r1078 r1079) (Book.mk 0 ([] : List Int) ([] : List Tally))).bind fun r1108 =>
            if r1108 = true then
             some (0 != r56)
            else
             some true).bind fun y1122 =>
            if y1122 = true then
             some false
            else
             (laws_heldBook (Book.mk r629 r908 r909) 1).bind fun r1139 =>
             if (decide (r1139 < 0)) = true then
              some false
             else
              if (r1139 != r907) = true then
               some false
              else
               some true
       else
        some false
      else
       some false
   | (.inr (r1180, r1181, r1182)) =>
    (laws_toBook a1).bind fun (r1198, r1199, r1200) =>
    (laws_toDealS a2).bind fun r1236 =>
    (impl_StateOn (Book.mk r1198 r1199 r1200) r1236 a3).bind fun r => match r with
    | (.inl (r1259, r1260)) =>
     ((laws_eqBook (Book.mk r1259 ([] : List Int) ([] : List Tally)) (Book.mk r1180 r1181 r1182)).bind fun r1302 =>
     if r1302 = true then
      some (r1260 != 0)
     else
      some true).bind fun y1330 =>
     if y1330 = true then
      some false
     else
      (laws_toBook a1).bind fun (r1352, r1353, r1354) =>
      (laws_eqBook (Book.mk r1198 r1199 r1200) (Book.mk r1352 r1353 r1354)).bind fun r1356 =>
      if r1356 = true then
       (laws_toDealS a2).bind fun r1371 =>
       (laws_eqDealS r1236 r1371).bind fun r1373 =>
       if r1373 = true then
        (laws_markBook_ll r1198 r1199 r1200 1).bind fun (r1400, r1401, r1402) =>
        (laws_markDealS_l r1236 r1400).bind fun (r1429, r1430) =>
        (if (decide (r1429 < 0)) = true then
         some true
        else
         (laws_eqBook (Book.mk r1259 ([] : List Int) ([] : List Tally)) (Book.mk r1180 r1181 r1182)).bind fun r1461 =>
         if r1461 = true then
          some (r1260 != 0)
         else
          some true).bind fun y1483 =>
        if y1483 = true then
         some false
        else
         (laws_markBook_nn r1259 1).bind fun r1507 =>
         (laws_heldBook (Book.mk r1259 ([] : List Int) ([] : List Tally)) 1).bind fun r1534 =>
         if (decide (r1534 < 0)) = true then
          some false
         else
          if (r1534 != r1507) = true then
           some false
          else
           (laws_toBook a1).bind fun (r1575, r1576, r1577) =>
           (laws_toDealS a2).bind fun r1579 =>
           (impl_StateOn (Book.mk r1575 r1576 r1577) r1579 a3).bind fun r => match r with
           | (.inl (r1581, r1582)) =>
            ((laws_eqBook (Book.mk r1581 ([] : List Int) ([] : List Tally)) (Book.mk r1180 r1181 r1182)).bind fun r1605 =>
            if r1605 = true then
             some (r1582 != 0)
            else
             some true).bind fun y1619 =>
            if y1619 = true then
             some false
            else
             (laws_heldBook (Book.mk r1259 ([] : List Int) ([] : List Tally)) 1).bind fun r1634 =>
             if (decide (r1634 < 0)) = true then
              some false
             else
              if (r1634 != r1507) = true then
               some false
              else
               some true
           | (.inr (r1661, r1662, r1663)) =>
            ((laws_eqBook (Book.mk r1661 r1662 r1663) (Book.mk r1180 r1181 r1182)).bind fun r1686 =>
            if r1686 = true then
             some false
            else
             some true).bind fun y1700 =>
            if y1700 = true then
             some false
            else
             (laws_heldBook (Book.mk r1259 ([] : List Int) ([] : List Tally)) 1).bind fun r1715 =>
             if (decide (r1715 < 0)) = true then
              some false
             else
              if (r1715 != r1507) = true then
               some false
              else
               some true
       else
        some false
      else
       some false
    | (.inr (r1755, r1756, r1757)) =>
     ((laws_eqBook (Book.mk r1755 r1756 r1757) (Book.mk r1180 r1181 r1182)).bind fun r1820 =>
     if r1820 = true then
      some false
     else
      some true).bind fun y1848 =>
     if y1848 = true then
      some false
     else
      (laws_toBook a1).bind fun (r1872, r1873, r1874) =>
      (laws_eqBook (Book.mk r1198 r1199 r1200) (Book.mk r1872 r1873 r1874)).bind fun r1876 =>
      if r1876 = true then
       (laws_toDealS a2).bind fun r1891 =>
       (laws_eqDealS r1236 r1891).bind fun r1893 =>
       if r1893 = true then
        (laws_markBook_ll r1198 r1199 r1200 1).bind fun (r1920, r1921, r1922) =>
        (laws_markDealS_l r1236 r1920).bind fun (r1951, r1952) =>
        (if (decide (r1951 < 0)) = true then
         some true
        else
         (laws_eqBook (Book.mk r1755 r1756 r1757) (Book.mk r1180 r1181 r1182)).bind fun r1985 =>
         if r1985 = true then
          some false
         else
          some true).bind fun y2007 =>
        if y2007 = true then
         some false
        else
         (laws_markBook_ll r1755 r1756 r1757 1).bind fun (r2033, r2034, r2035) =>
         (laws_heldBook (Book.mk r1755 r2034 r2035) 1).bind fun r2068 =>
         if (decide (r2068 < 0)) = true then
          some false
         else
          if (r2068 != r2033) = true then
           some false
          else
           (laws_toBook a1).bind fun (r2109, r2110, r2111) =>
           (laws_toDealS a2).bind fun r2113 =>
           (impl_StateOn (Book.mk r2109 r2110 r2111) r2113 a3).bind fun r => match r with
           | (.inl (r2115, r2116)) =>
            ((laws_eqBook (Book.mk r2115 ([] : List Int) ([] : List Tally)) (Book.mk r1180 r1181 r1182)).bind fun r2145 =>
            if r2145 = true then
             some (r2116 != 0)
            else
             some true).bind fun y2159 =>
            if y2159 = true then
             some false
            else
             (laws_heldBook (Book.mk r1755 r2034 r2035) 1).bind fun r2176 =>
             if (decide (r2176 < 0)) = true then
              some false
             else
              if (r2176 != r2033) = true then
               some false
              else
               some true
           | (.inr (r2203, r2204, r2205)) =>
            ((laws_eqBook (Book.mk r2203 r2204 r2205) (Book.mk r1180 r1181 r1182)).bind fun r2234 =>
            if r2234 = true then
             some false
            else
             some true).bind fun y2248 =>
            if y2248 = true then
             some false
            else
             (laws_heldBook (Book.mk r1755 r2034 r2035) 1).bind fun r2265 =>
             if (decide (r2265 < 0)) = true then
              some false
             else
              if (r2265 != r2033) = true then
               some false
              else
               some true
       else
        some false
      else
       some false
def laws_FnExactStateOn_enc (r : Bool) : AV := .bool r
theorem laws_FnExactStateOn_ok (a1 : Book) (a2 : List Deal) (a3 : Int) (r : Bool) (h : laws_FnExactStateOn a1 a2 a3 = some r) : Ev (fun k => CN k 7 [.agg [.int .i64 a1.Day, .sl none (a1.Cash.map (cI .i64)), .sl none (a1.Tallies.map Tally.c)], .sl none (a2.map Deal.c), .int .i64 a3] []) (fun p => rRes p.2 p.1 = laws_FnExactStateOn_enc r) := by
 unfold laws_FnExactStateOn at h
 obtain ⟨r13, hx12, h⟩ := bind_some h
 refine Ev.enter (F := fun k => f7 (CN k) k) (fun k => callN_eq rfl Try.func7 rfl rfl rfl (by decide +kernel) (f7_eq _ _)) (sq (Rg (kx (bxI rfl rfl ⟨rfl, rfl, by decide⟩) (kx (mvO rfl) (Rn (hN rfl (hN rfl (hN rfl hZ))) fun e1 h3 h4 h5 => sN (sq (Rg (kx (mvO rfl) (Rn (hA h3 (hA h4 (hA h5 (hV (.int .i64 1048576) rfl hZ)))) fun e6 h8 h9 h10 h11 => sN (sq (Rg (kx (ldPA h10 rfl rfl) (kx (mvO h11) (kc (cl (v := .int .i64 r13) rfl (cns rfl (cns rfl rfl)) rfl (laws_szBook_ok a1 1048576 _ hx12) nm) (kx (mvO rfl) (Rn (hA h8 (hA h9 (hA h10 (hN rfl hZ)))) fun e14 h16 h17 h18 h19 => sN (sq (sq (Rg (kx (mvO h19) (kx (bLss rfl rfl) (Rn (hA h16 (hA h17 (hA h18 (hA h19 (hN rfl hZ))))) fun e20 h22 h23 h24 h25 h26 => sN ?_))))))))))))))))))))))
 clear h3 h4 h5 h10 h8 h9 h16 h17 h18 h19
 rcases ite_some h with ⟨hb27, h⟩ | ⟨hb27, h⟩
 ·refine cT h26 hb27 (sq (Rg (kx (mvO rfl) (Rn (hV (.bool true) rfl hZ) fun e28 h30 => sN (xx (sR ?_))))))
  clear h22 h23 h24 h25 h26
  obtain rfl := si h
  exact eR (resT h30 res0) rfl
 obtain ⟨r32, hx31, h⟩ := bind_some h
 refine cF h26 hb27 (xx (sN (sq (Rg (kx (mvO h22) (kx (mvO h25) (kc (cl (v := .int .i64 r32) rfl (cns rfl (cns rfl rfl)) rfl (laws_szDealS_ok a2 r13 _ hx31) nm) (kx (mvO rfl) (Rn (hA h22 (hA h23 (hA h24 (hN rfl hZ)))) fun e33 h35 h36 h37 h38 => sN (sq (sq (Rg (kx (mvO h38) (kx (bLss rfl rfl) (Rn (hA h35 (hA h36 (hA h37 (hN rfl hZ)))) fun e39 h41 h42 h43 h44 => sN ?_)))))))))))))))
 clear h22 h23 h24 h26 h35 h36 h37 h38
 rcases ite_some h with ⟨hb45, h⟩ | ⟨hb45, h⟩
 ·refine cT h44 hb45 (sq (Rg (kx (mvO rfl) (Rn (hV (.bool true) rfl hZ) fun e46 h48 => sN (xx (sR ?_))))))
  clear h41 h42 h43 h44
  obtain rfl := si h
  exact eR (resT h48 res0) rfl
 obtain ⟨⟨r50, r51, r52⟩, hx49, h⟩ := bind_some h
 obtain ⟨r54, hx53, h⟩ := bind_some h
 obtain ⟨q2306, hx55, h⟩ := bind_some h
 refine cF h44 hb45 (xx (sN (sq (Rg (kx (ldPA h43 rfl rfl) (kc (cl (v := .agg [.int .i64 r50, .sl (some 2) (r51.map (cI .i64)), .sl (some 75) (r52.map Tally.c)]) rfl (cns rfl rfl) rfl (laws_toBook_ok a1 _ hx49) nm) (kx (mvO h41) (kc (cl (v := .sl (some 65) (r54.map Deal.c)) rfl (cns rfl rfl) rfl (laws_toDealS_ok a2 _ hx53) nm) (kx (mvO h42) ?_)))))))))
 rcases q2306 with r56 | ⟨r1180, r1181, r1182⟩
 ·refine kc (cl (v := .tup [.agg [.int .i64 0, .nils, .nils], .int .i64 r56]) rfl (cns rfl (cns rfl (cns rfl rfl))) rfl (spec_StateOn_ok (Book.mk r50 r51 r52) r54 a3 _ hx55) nm) (kx (mvO rfl) (kx (exT rfl rfl) (kx (exT rfl rfl) (ku (alO zero33) fun M58 hM59 => ?_))))
  have o60 : M58[([] : Mem).length]? = some (.live ⟨.box, 33, 3, [[.int .i64 0, .nils, .nils]]⟩) := push_new hM59
  refine kw (stO rfl rfl o60 rfl rfl ⟨rfl, ble rfl⟩ rfl rfl) fun M61 hM62 => ?_
  have o63 : M61[([] : Mem).length]? = some (.live ⟨.box, 33, 3, [[.int .i64 0, .nils, .nils]]⟩) := set_same hM62 o60
  obtain ⟨⟨r72, r73, r74⟩, hx71, h⟩ := bind_some h
  refine kx (mvO rfl) (Rn (hA h41 (hA h42 (hA h43 (hV (.loc ([] : Mem).length 1 0 0) rfl (hN rfl hZ))))) fun e64 h66 h67 h68 h69 h70 => sN (sq (Rg (kx (ldPA h68 rfl rfl) (Ev.nxcp (Ev.callT (v := .agg [.int .i64 r72, .sl (some 2) (r73.map (cI .i64)), .sl (some 75) (r74.map Tally.c)]) rfl (cns rfl rfl) rfl (laws_toBook_ok a1 _ hx71) (th_gen (v' := .agg [.int .i64 r72, .lsl M61.length r73.length 0 r73.length, .lsl (M61.length + 1) r74.length 0 r74.length]) (l := [⟨.grow, 2, 1, r73.map (cI .i64)⟩, ⟨.grow, 75, 5, r74.map Tally.c⟩]) (own_agg (oa1 rfl (oa1 (own1_row' (c := (cI .i64)) (fun _ => rfl)) (oa1 (own1_row' (c := Tally.c) Tally.flF) oa0)))) (by simp [thaw, thaw2, thaw1, thawL, co2, co75]) rfl rfl)) fun M77 hM78 => ?_)))))
  clear h41 h42 h43 h44
  have o79 := push_old hM78 o63
  have ne80 : ([] : Mem).length ≠ M61.length := by have := lt_of_get (M := M61) o63; omega
  have o81 : M77[M61.length]? = some (.live ⟨.grow, 2, 1, r73.map (cI .i64)⟩) := push_at hM78 0 rfl
  have ne82 : ([] : Mem).length ≠ (M61.length + 1) := by have := lt_of_get (M := M61) o63; omega
  have ne83 : M61.length ≠ (M61.length + 1) := by omega
  have o84 : M77[(M61.length + 1)]? = some (.live ⟨.grow, 75, 5, r74.map Tally.c⟩) := push_at hM78 1 rfl
  refine ku (alO zero33) fun M86 hM87 => ?_
  have o88 := push_old hM87 o79
  have ne89 := ne_new o79
  have o90 := push_old hM87 o81
  have ne91 := ne_new o81
  have o92 := push_old hM87 o84
  have ne93 := ne_new o84
  have o94 : M86[M77.length]? = some (.live ⟨.box, 33, 3, [[.int .i64 0, .nils, .nils]]⟩) := push_new hM87
  refine kw (stO rfl rfl o94 rfl rfl ⟨rfl, ble rfl⟩ (all1 rfl (all1 (okL o90 (by simp)) (all1 (okL o92 (by simp)) all0))) rfl) fun M95 hM96 => ?_
  have o97 := set_ne hM96 ne89 o88
  have o98 := set_ne hM96 ne91 o90
  have o99 := set_ne hM96 ne93 o92
  have o100 : M95[M77.length]? = some (.live ⟨.box, 33, 3, [[.int .i64 r72, .lsl M61.length r73.length 0 r73.length, .lsl (M61.length + 1) r74.length 0 r74.length]]⟩) := set_same hM96 o94
  obtain ⟨r110, hx109, h⟩ := bind_some h
  refine Rn (hA h66 (hA h67 (hA h68 (hA h69 (hA h70 (hV (.loc M77.length 1 0 0) rfl hZ)))))) fun e101 h103 h104 h105 h106 h107 h108 => sN (sq (Rg (kx (mvO h103) (Ev.nxcp (Ev.callT (v := .sl (some 65) (r110.map Deal.c)) rfl (cns rfl rfl) rfl (laws_toDealS_ok a2 _ hx109) (th_gen (v' := .lsl M95.length r110.length 0 r110.length) (l := [⟨.grow, 65, 6, r110.map Deal.c⟩]) (ownA_row (c := Deal.c) Deal.flF) (by simp [thaw, thaw2, thaw1, thawL, co65]) rfl rfl)) fun M112 hM113 => ?_))))
  clear h66 h67 h68 h69 h70
  have o114 := push_old hM113 o97
  have o115 := push_old hM113 o98
  have o116 := push_old hM113 o99
  have o117 := push_old hM113 o100
  have ne118 : ([] : Mem).length ≠ M95.length := by have := lt_of_get (M := M95) o97; omega
  have ne119 : M61.length ≠ M95.length := by have := lt_of_get (M := M95) o98; omega
  have ne120 : (M61.length + 1) ≠ M95.length := by have := lt_of_get (M := M95) o99; omega
  have ne121 : M77.length ≠ M95.length := by have := lt_of_get (M := M95) o100; omega
  have o122 : M112[M95.length]? = some (.live ⟨.grow, 65, 6, r110.map Deal.c⟩) := push_at hM113 0 rfl
  obtain ⟨q1179, hx132, h⟩ := bind_some h
  refine kx (mvO rfl) (Rn (hA h103 (hA h104 (hA h105 (hA h106 (hA h107 (hA h108 (hV (.lsl M95.length r110.length 0 r110.length) rfl hZ))))))) fun e123 h125 h126 h127 h128 h129 h130 h131 => sN (sq (Rg (kx (ldOA h130 o117 rfl rfl (ble rfl) rfl) (kx (mvO h131) (kx (mvO h126) ?_))))))
  clear h103 h104 h105 h106 h107 h108
  rcases q1179 with ⟨r133, r134⟩ | ⟨r629, r630, r631⟩
  ·refine Ev.nxcp (Ev.callT (v := .tup [.agg [.int .i64 r133, .nils, .nils], .int .i64 r134]) rfl (cns rfl (cns rfl (cns rfl rfl))) (ra1 (ra_agg (mp1 rfl (mp1 (ra1_row o115 rfl (cI_fl _)) (mp1 (ra1_row o116 rfl Tally.fl) mp0)))) (ra1 (ra1_row o122 rfl Deal.fl) (ra1 rfl ra0))) (impl_StateOn_ok (Book.mk r72 r73 r74) r110 a3 _ hx132) (th_gen (v' := .tup [.agg [.int .i64 r133, .nils, .nils], .int .i64 r134]) (l := []) (own_tup (oa1 (own2_agg (oa1 rfl (oa1 rfl (oa1 rfl oa0)))) (oa1 rfl oa0))) (by simp [thaw, thaw2, thaw1, thawL, thaw]) rfl rfl)) fun M135 hM136 => ?_
   have o137 := push_old hM136 o114
   have o138 := push_old hM136 o115
   have o139 := push_old hM136 o116
   have o140 := push_old hM136 o117
   have o141 := push_old hM136 o122
   refine kx (mvO rfl) (kx (exT rfl rfl) (kx (exT rfl rfl) (ku (alO zero33) fun M143 hM144 => ?_)))
   have o145 := push_old hM144 o137
   have ne146 := ne_new o137
   have o147 := push_old hM144 o138
   have ne148 := ne_new o138
   have o149 := push_old hM144 o139
   have ne150 := ne_new o139
   have o151 := push_old hM144 o140
   have ne152 := ne_new o140
   have o153 := push_old hM144 o141
   have ne154 := ne_new o141
   have o155 : M143[M135.length]? = some (.live ⟨.box, 33, 3, [[.int .i64 0, .nils, .nils]]⟩) := push_new hM144
   refine kw (stO rfl rfl o155 rfl rfl ⟨rfl, ble rfl⟩ rfl rfl) fun M156 hM157 => ?_
   have o158 := set_ne hM157 ne146 o145
   have o159 := set_ne hM157 ne148 o147
   have o160 := set_ne hM157 ne150 o149
   have o161 := set_ne hM157 ne152 o151
   have o162 := set_ne hM157 ne154 o153
   have o163 : M156[M135.length]? = some (.live ⟨.box, 33, 3, [[.int .i64 r133, .nils, .nils]]⟩) := set_same hM157 o155
   obtain ⟨r627, hr628, h⟩ := bind_some h
   refine kx (mvO rfl) (Rn (hA h125 (hA h126 (hA h127 (hA h128 (hA h129 (hA h130 (hA h131 (hV (.loc M135.length 1 0 0) rfl (hN rfl hZ))))))))) fun e164 h166 h167 h168 h169 h170 h171 h172 h173 h174 => sN (sq (sq ?_)))
   clear h125 h126 h127 h128 h129 h130 h131
   refine Ev.cut (Q1 := laws_FnExactStateOn_c1_Q a1 a2 a3 r56 r72 r73 r74 r110 r133 r134 (([] : Mem).length) M61.length (M61.length + 1) M77.length M95.length M135.length r627) (by
       have h := hr628
       obtain ⟨r176, hx175, h⟩ := bind_some h
       refine Rg (kx (ldOA h173 o163 rfl rfl (ble rfl) rfl) (kx (ldOA h169 o158 rfl rfl (ble rfl) rfl) (kc (cl (v := .bool r176) rfl (cns rfl (cns rfl rfl)) rfl (laws_eqBook_ok (Book.mk r133 ([] : List Int) ([] : List Tally)) (Book.mk 0 ([] : List Int) ([] : List Tally)) _ hx175) nm) (kx (uNot rfl) (kx (mvO rfl) ?_)))))
       rcases ite_some h with ⟨hb177, h⟩ | ⟨hb177, h⟩
       ·refine kx (guF rfl (congrArg Bool.not hb177) (mvO h174)) (kx (guF rfl (congrArg Bool.not hb177) (mvO h170)) (kx (guF rfl (congrArg Bool.not hb177) (bNeq rfl rfl)) (kx (pkF rfl (congrArg Bool.not hb177) rfl) (Rn (hA h166 (hA h167 (hA h168 (hA h169 (hA h170 (hA h171 (hA h172 (hA h173 (hA h174 (hN rfl hZ)))))))))) fun e178 h180 h181 h182 h183 h184 h185 h186 h187 h188 h189 => ?_))))
        clear h166 h167 h168 h169 h170 h171 h172 h173 h174
        obtain rfl := si h
        exact kd (show laws_FnExactStateOn_c1_Q a1 a2 a3 r56 r72 r73 r74 r110 r133 r134 (([] : Mem).length) M61.length (M61.length + 1) M77.length M95.length M135.length _ _ from ⟨rfl, h180, h181, h182, h183, h184, h185, h186, h187, h188, h189, o162, o163, o158, o159, o160, o161⟩)
       refine kx (gsF rfl (congrArg Bool.not hb177)) (kx (gsF rfl (congrArg Bool.not hb177)) (kx (gsF rfl (congrArg Bool.not hb177)) (kx (pkT rfl (congrArg Bool.not hb177) rfl) (Rn (hA h166 (hA h167 (hA h168 (hA h169 (hA h170 (hA h171 (hA h172 (hA h173 (hA h174 (hV (.bool true) rfl hZ)))))))))) fun e190 h192 h193 h194 h195 h196 h197 h198 h199 h200 h201 => ?_))))
       clear h166 h167 h168 h169 h170 h171 h172 h173 h174
       obtain rfl := si h
       exact kd (show laws_FnExactStateOn_c1_Q a1 a2 a3 r56 r72 r73 r74 r110 r133 r134 (([] : Mem).length) M61.length (M61.length + 1) M77.length M95.length M135.length _ _ from ⟨rfl, h192, h193, h194, h195, h196, h197, h198, h199, h200, h201, o162, o163, o158, o159, o160, o161⟩)) ?_
   revert h hr628
   revert r627
   intro y204 hr628 h
   intro x e202 M203 hq626
   obtain ⟨rfl, h205, h206, h207, h208, h209, h210, h211, h212, h213, h214, o215, o216, o217, o218, o219, o220⟩ := hq626
   refine sN ?_
   rcases ite_some h with ⟨hb221, h⟩ | ⟨hb221, h⟩
   ·refine cT h214 hb221 (sq (Rg (kx (mvO rfl) (Rn (hV (.bool false) rfl hZ) fun e222 h224 => sN (xx (sR ?_))))))
    clear h205 h206 h207 h208 h209 h210 h211 h212 h213 h214
    obtain rfl := si h
    exact eR (resT h224 res0) rfl
   obtain ⟨⟨r226, r227, r228⟩, hx225, h⟩ := bind_some h
   obtain ⟨r230, hx229, h⟩ := bind_some h
   refine cF h214 hb221 (xx (sN (sq (sq (Rd (kf (ldOA h210 o220 rfl rfl (ble rfl) rfl) (kf (ldPA h207 rfl rfl) (fc (cl (v := .agg [.int .i64 r226, .sl (some 2) (r227.map (cI .i64)), .sl (some 75) (r228.map Tally.c)]) rfl (cns rfl rfl) rfl (laws_toBook_ok a1 _ hx225) nm) (fc (cl (v := .bool r230) rfl (cns rfl (cns rfl rfl)) (ra1 (ra_agg (mp1 rfl (mp1 (ra1_row o218 rfl (cI_fl _)) (mp1 (ra1_row o219 rfl Tally.fl) mp0)))) (ra1 rfl ra0)) (laws_eqBook_ok (Book.mk r72 r73 r74) (Book.mk r226 r227 r228) _ hx229) (fun _ => rfl)) (kf (uNot rfl) (fZ (Rn (hV (.sl none (a2.map Deal.c)) h205 (hV (.int .i64 a3) h206 (hV (.pt none [.int .i64 a1.Day, .sl none (a1.Cash.map (cI .i64)), .sl none (a1.Tallies.map Tally.c)]) h207 (hV (.loc ([] : Mem).length 1 0 0) h208 (hV (.int .i64 r56) h209 (hV (.loc M77.length 1 0 0) h210 (hV (.lsl M95.length r110.length 0 r110.length) h211 (hV (.loc M135.length 1 0 0) h212 (hV (.int .i64 r134) h213 (hN rfl hZ)))))))))) fun e231 h233 h234 h235 h236 h237 h238 h239 h240 h241 h242 => sN ?_))))))))))))
   clear h205 h206 h207 h208 h209 h210 h211 h212 h213 h214
   rcases ite_some h with ⟨hb243, h⟩ | ⟨hb243, h⟩
   ·obtain ⟨r245, hx244, h⟩ := bind_some h
    obtain ⟨r247, hx246, h⟩ := bind_some h
    refine cF h242 (congrArg Bool.not hb243) (xx (sN (sq (sq (Rg (kx (mvO h239) (kx (mvO h233) (kc (cl (v := .sl (some 65) (r245.map Deal.c)) rfl (cns rfl rfl) rfl (laws_toDealS_ok a2 _ hx244) nm) (kc (cl (v := .bool r247) rfl (cns rfl (cns rfl rfl)) (ra1 (ra1_row o215 rfl Deal.fl) (ra1 rfl ra0)) (laws_eqDealS_ok r110 r245 _ hx246) (fun _ => rfl)) (kx (uNot rfl) (Rn (hA h233 (hA h234 (hA h235 (hA h236 (hA h237 (hA h238 (hA h239 (hA h240 (hA h241 (hN rfl hZ)))))))))) fun e248 h250 h251 h252 h253 h254 h255 h256 h257 h258 h259 => sN ?_)))))))))))
    clear h233 h234 h235 h236 h237 h238 h239 h240 h241 h242
    rcases ite_some h with ⟨hb260, h⟩ | ⟨hb260, h⟩
    ·obtain ⟨⟨r274, r275, r276⟩, hx273, h⟩ := bind_some h
     refine cF h259 (congrArg Bool.not hb260) (xx (sN (sq (Rg (kx (mvO rfl) (Rn (hA h250 (hA h251 (hA h252 (hA h253 (hA h254 (hA h255 (hA h256 (hA h257 (hA h258 (hV (.int .i64 1) rfl hZ)))))))))) fun e261 h263 h264 h265 h266 h267 h268 h269 h270 h271 h272 => sN (sq (Rg (kx (ldOA h268 o220 rfl rfl (ble rfl) rfl) (kx (mvO h272) (Ev.nxw (Ev.callW rfl (cns rfl (cns rfl rfl)) (laws_markBook_ll_ok r72 r73 r74 1 M61.length (M61.length + 1) ne83 M203 o218 o219 _ hx273)) fun v279 M277 hq278 => ?_)))))))))))
     clear h250 h251 h252 h253 h254 h255 h256 h257 h258 h259
     obtain ⟨hv279, o280, o281, fr282, hl283, hl284⟩ := hq278
     have hv279 : v279 = .int .i64 r274 := hv279
     subst hv279
     have o285 : M277[M61.length]? = some (.live ⟨.grow, 2, 1, r275.map (cI .i64)⟩) := o280
     have o286 : M277[(M61.length + 1)]? = some (.live ⟨.grow, 75, 5, r276.map Tally.c⟩) := o281
     have hl283 : r275.length = r73.length := hl283
     have hl284 : r276.length = r74.length := hl284
     have o287 : M277[M95.length]? = some (.live ⟨.grow, 65, 6, r110.map Deal.c⟩) := fr282 _ _ (niC (Ne.symm ne119) (niC (Ne.symm ne120) niN)) o215
     have o288 : M277[M135.length]? = some (.live ⟨.box, 33, 3, [[.int .i64 r133, .nils, .nils]]⟩) := fr282 _ _ (niC (Ne.symm ne148) (niC (Ne.symm ne150) niN)) o216
     have o289 : M277[([] : Mem).length]? = some (.live ⟨.box, 33, 3, [[.int .i64 0, .nils, .nils]]⟩) := fr282 _ _ (niC ne80 (niC ne82 niN)) o217
     have o290 : M277[M77.length]? = some (.live ⟨.box, 33, 3, [[.int .i64 r72, .lsl M61.length r73.length 0 r73.length, .lsl (M61.length + 1) r74.length 0 r74.length]]⟩) := fr282 _ _ (niC (Ne.symm ne91) (niC (Ne.symm ne93) niN)) o220
     obtain ⟨⟨r303, r304⟩, hx302, h⟩ := bind_some h
     refine kx (mvO rfl) (Rn (hA h263 (hA h264 (hA h265 (hA h266 (hA h267 (hA h269 (hA h270 (hA h271 (hN rfl hZ))))))))) fun e291 h293 h294 h295 h296 h297 h298 h299 h300 h301 => sN (sq (Rg (kx (mvO h298) (kx (mvO h301) (Ev.nxw (Ev.callW rfl (cns rfl (cns rfl rfl)) (laws_markDealS_l_ok r110 r274 M95.length M277 o287 _ hx302)) fun v307 M305 hq306 => ?_))))))
     clear h263 h264 h265 h266 h267 h268 h269 h270 h271
     obtain ⟨hv307, o308, fr309, hl310⟩ := hq306
     have hv307 : v307 = .int .i64 r303 := hv307
     subst hv307
     have o311 : M305[M95.length]? = some (.live ⟨.grow, 65, 6, r304.map Deal.c⟩) := o308
     have hl310 : r304.length = r110.length := hl310
     have o312 : M305[M135.length]? = some (.live ⟨.box, 33, 3, [[.int .i64 r133, .nils, .nils]]⟩) := fr309 _ _ (niC (Ne.symm ne154) niN) o288
     have o313 : M305[([] : Mem).length]? = some (.live ⟨.box, 33, 3, [[.int .i64 0, .nils, .nils]]⟩) := fr309 _ _ (niC ne118 niN) o289
     obtain ⟨r618, hr619, h⟩ := bind_some h
     refine kx (mvO rfl) (Rn (hA h293 (hA h294 (hA h295 (hA h296 (hA h297 (hA h299 (hA h300 (hN rfl hZ)))))))) fun e314 h316 h317 h318 h319 h320 h321 h322 h323 => sN (sq (sq ?_)))
     clear h293 h294 h295 h296 h297 h298 h299 h300
     refine Ev.cut (Q1 := laws_FnExactStateOn_c2_Q a1 a2 a3 r56 r133 M135.length (([] : Mem).length) r618) (by
         have h := hr619
         refine Rg (kx (mvO h323) (kx (bLss rfl rfl) (kx (mvO rfl) ?_)))
         rcases ite_some h with ⟨hb324, h⟩ | ⟨hb324, h⟩
         ·refine kx (gsF rfl hb324) (kx (gsF rfl hb324) (kc (Ev.gsF rfl hb324) (kx (gsF rfl hb324) (kx (pkT rfl hb324 rfl) (kx (mvO rfl) (kx (gsF rfl rfl) (kx (gsF rfl rfl) (kx (gsF rfl rfl) (kx (pkT rfl rfl rfl) (Rn (hA h316 (hA h317 (hA h318 (hA h319 (hA h320 (hA h321 (hV (.bool true) rfl hZ))))))) fun e325 h327 h328 h329 h330 h331 h332 h333 => ?_))))))))))
          clear h316 h317 h318 h319 h320 h321 h322 h323
          obtain rfl := si h
          exact kd (show laws_FnExactStateOn_c2_Q a1 a2 a3 r56 r133 M135.length (([] : Mem).length) _ _ from ⟨rfl, h327, h328, h329, h330, h331, h332, h333, o312, o313⟩)
         obtain ⟨r335, hx334, h⟩ := bind_some h
         refine kx (guF rfl hb324 (ldOA h321 o312 rfl rfl (ble rfl) rfl)) (kx (guF rfl hb324 (ldOA h319 o313 rfl rfl (ble rfl) rfl)) (kc (Ev.guF rfl hb324 (cl (v := .bool r335) rfl (cns rfl (cns rfl rfl)) rfl (laws_eqBook_ok (Book.mk r133 ([] : List Int) ([] : List Tally)) (Book.mk 0 ([] : List Int) ([] : List Tally)) _ hx334) nm)) (kx (guF rfl hb324 (uNot rfl)) (kx (pkF rfl hb324 rfl) (kx (mvO rfl) ?_)))))
         rcases ite_some h with ⟨hb336, h⟩ | ⟨hb336, h⟩
         ·refine kx (guF rfl (congrArg Bool.not hb336) (mvO h322)) (kx (guF rfl (congrArg Bool.not hb336) (mvO h320)) (kx (guF rfl (congrArg Bool.not hb336) (bNeq rfl rfl)) (kx (pkF rfl (congrArg Bool.not hb336) rfl) (Rn (hA h316 (hA h317 (hA h318 (hA h319 (hA h320 (hA h321 (hN rfl hZ))))))) fun e337 h339 h340 h341 h342 h343 h344 h345 => ?_))))
          clear h316 h317 h318 h319 h320 h321 h322 h323
          obtain rfl := si h
          exact kd (show laws_FnExactStateOn_c2_Q a1 a2 a3 r56 r133 M135.length (([] : Mem).length) _ _ from ⟨rfl, h339, h340, h341, h342, h343, h344, h345, o312, o313⟩)
         refine kx (gsF rfl (congrArg Bool.not hb336)) (kx (gsF rfl (congrArg Bool.not hb336)) (kx (gsF rfl (congrArg Bool.not hb336)) (kx (pkT rfl (congrArg Bool.not hb336) rfl) (Rn (hA h316 (hA h317 (hA h318 (hA h319 (hA h320 (hA h321 (hV (.bool true) rfl hZ))))))) fun e346 h348 h349 h350 h351 h352 h353 h354 => ?_))))
         clear h316 h317 h318 h319 h320 h321 h322 h323
         obtain rfl := si h
         exact kd (show laws_FnExactStateOn_c2_Q a1 a2 a3 r56 r133 M135.length (([] : Mem).length) _ _ from ⟨rfl, h348, h349, h350, h351, h352, h353, h354, o312, o313⟩)) ?_
     revert h hr619
     revert r618
     intro y357 hr619 h
     intro x e355 M356 hq617
     obtain ⟨rfl, h358, h359, h360, h361, h362, h363, h364, o365, o366⟩ := hq617
     refine sN ?_
     rcases ite_some h with ⟨hb367, h⟩ | ⟨hb367, h⟩
     ·refine cT h364 hb367 (sq (Rg (kx (mvO rfl) (Rn (hV (.bool false) rfl hZ) fun e368 h370 => sN (xx (sR ?_))))))
      clear h358 h359 h360 h361 h362 h363 h364
      obtain rfl := si h
      exact eR (resT h370 res0) rfl
     obtain ⟨r381, hx380, h⟩ := bind_some h
     refine cF h364 hb367 (xx (sN (sq (Rg (kx (mvO rfl) (Rn (hV (.sl none (a2.map Deal.c)) h358 (hV (.int .i64 a3) h359 (hV (.pt none [.int .i64 a1.Day, .sl none (a1.Cash.map (cI .i64)), .sl none (a1.Tallies.map Tally.c)]) h360 (hV (.loc ([] : Mem).length 1 0 0) h361 (hV (.int .i64 r56) h362 (hV (.loc M135.length 1 0 0) h363 (hV (.int .i64 1) rfl hZ))))))) fun e371 h373 h374 h375 h376 h377 h378 h379 => sN (sq (Rg (kx (ldOA h378 o365 rfl rfl (ble rfl) rfl) (kx (mvO h379) (Ev.nxw (Ev.callW rfl (cns rfl (cns rfl rfl)) (laws_markBook_nn_ok r133 1 M356 _ hx380)) fun v384 M382 hq383 => ?_)))))))))))
     clear h358 h359 h360 h361 h362 h363 h364
     obtain ⟨hv384, fr385⟩ := hq383
     have hv384 : v384 = .int .i64 r381 := hv384
     subst hv384
     have o386 : M382[M135.length]? = some (.live ⟨.box, 33, 3, [[.int .i64 r133, .nils, .nils]]⟩) := fr385 _ _ niN o365
     have o387 : M382[([] : Mem).length]? = some (.live ⟨.box, 33, 3, [[.int .i64 0, .nils, .nils]]⟩) := fr385 _ _ niN o366
     obtain ⟨r408, hx407, h⟩ := bind_some h
     refine kx (mvO rfl) (Rn (hA h373 (hA h374 (hA h375 (hA h376 (hA h377 (hA h378 (hN rfl hZ))))))) fun e388 h390 h391 h392 h393 h394 h395 h396 => sN (sq (Rg (kx (mvO rfl) (Rn (hA h390 (hA h391 (hA h392 (hA h393 (hA h394 (hA h395 (hA h396 (hV (.int .i64 1) rfl hZ)))))))) fun e397 h399 h400 h401 h402 h403 h404 h405 h406 => sN (sq (Rg (kx (ldOA h404 o386 rfl rfl (ble rfl) rfl) (kx (mvO h406) (kc (cl (v := .int .i64 r408) rfl (cns rfl (cns rfl rfl)) rfl (laws_heldBook_ok (Book.mk r133 ([] : List Int) ([] : List Tally)) 1 _ hx407) nm) (kx (mvO rfl) (Rn (hA h399 (hA h400 (hA h401 (hA h402 (hA h403 (hA h404 (hA h405 (hN rfl hZ)))))))) fun e409 h411 h412 h413 h414 h415 h416 h417 h418 => sN (sq (sq (Rg (kx (mvO h418) (kx (bLss rfl rfl) (Rn (hA h411 (hA h412 (hA h413 (hA h414 (hA h415 (hA h416 (hA h417 (hA h418 (hN rfl hZ))))))))) fun e419 h421 h422 h423 h424 h425 h426 h427 h428 h429 => sN ?_))))))))))))))))))
     clear h373 h374 h375 h376 h377 h378 h390 h391 h392 h393 h394 h395 h396 h399 h400 h401 h402 h403 h404 h405 h411 h412 h413 h414 h415 h416 h417 h418
     rcases ite_some h with ⟨hb430, h⟩ | ⟨hb430, h⟩
     ·refine cT h429 hb430 (sq (Rg (kx (mvO rfl) (Rn (hV (.bool false) rfl hZ) fun e431 h433 => sN (xx (sR ?_))))))
      clear h421 h422 h423 h424 h425 h426 h427 h428 h429
      obtain rfl := si h
      exact eR (resT h433 res0) rfl
     refine cF h429 hb430 (xx (sN (sq (sq (Rg (kx (mvO h428) (kx (mvO h427) (kx (bNeq rfl rfl) (Rn (hA h421 (hA h422 (hA h423 (hA h424 (hA h425 (hA h426 (hA h427 (hN rfl hZ)))))))) fun e434 h436 h437 h438 h439 h440 h441 h442 h443 => sN ?_)))))))))
     clear h421 h422 h423 h424 h425 h426 h427 h428 h429
     rcases ite_some h with ⟨hb444, h⟩ | ⟨hb444, h⟩
     ·refine cT h443 hb444 (sq (Rg (kx (mvO rfl) (Rn (hV (.bool false) rfl hZ) fun e445 h447 => sN (xx (sR ?_))))))
      clear h436 h437 h438 h439 h440 h441 h442 h443
      obtain rfl := si h
      exact eR (resT h447 res0) rfl
     obtain ⟨⟨r449, r450, r451⟩, hx448, h⟩ := bind_some h
     obtain ⟨r453, hx452, h⟩ := bind_some h
     obtain ⟨q616, hx454, h⟩ := bind_some h
     refine cF h443 hb444 (xx (sN (sq (Rg (kx (ldPA h438 rfl rfl) (kc (cl (v := .agg [.int .i64 r449, .sl (some 2) (r450.map (cI .i64)), .sl (some 75) (r451.map Tally.c)]) rfl (cns rfl rfl) rfl (laws_toBook_ok a1 _ hx448) nm) (kx (mvO h436) (kc (cl (v := .sl (some 65) (r453.map Deal.c)) rfl (cns rfl rfl) rfl (laws_toDealS_ok a2 _ hx452) nm) (kx (mvO h437) ?_)))))))))
     rcases q616 with ⟨r455, r456⟩ | ⟨r535, r536, r537⟩
     ·refine kc (cl (v := .tup [.agg [.int .i64 r455, .nils, .nils], .int .i64 r456]) rfl (cns rfl (cns rfl (cns rfl rfl))) rfl (impl_StateOn_ok (Book.mk r449 r450 r451) r453 a3 _ hx454) nm) (kx (mvO rfl) (kx (exT rfl rfl) (kx (exT rfl rfl) (ku (alO zero33) fun M458 hM459 => ?_))))
      have o460 := push_old hM459 o386
      have ne461 := ne_new o386
      have o462 := push_old hM459 o387
      have ne463 := ne_new o387
      have o464 : M458[M382.length]? = some (.live ⟨.box, 33, 3, [[.int .i64 0, .nils, .nils]]⟩) := push_new hM459
      refine kw (stO rfl rfl o464 rfl rfl ⟨rfl, ble rfl⟩ rfl rfl) fun M465 hM466 => ?_
      have o467 := set_ne hM466 ne461 o460
      have o468 := set_ne hM466 ne463 o462
      have o469 : M465[M382.length]? = some (.live ⟨.box, 33, 3, [[.int .i64 r455, .nils, .nils]]⟩) := set_same hM466 o464
      obtain ⟨r533, hr534, h⟩ := bind_some h
      refine kx (mvO rfl) (Rn (hA h439 (hA h440 (hA h441 (hA h442 (hV (.loc M382.length 1 0 0) rfl (hN rfl hZ)))))) fun e470 h472 h473 h474 h475 h476 h477 => sN (sq (sq ?_)))
      clear h436 h437 h438 h439 h440 h441 h442 h443
      refine Ev.cut (Q1 := laws_FnExactStateOn_c3_Q r133 r381 M135.length (([] : Mem).length) M382.length r533) (by
          have h := hr534
          obtain ⟨r479, hx478, h⟩ := bind_some h
          refine Rg (kx (ldOA h476 o469 rfl rfl (ble rfl) rfl) (kx (ldOA h472 o468 rfl rfl (ble rfl) rfl) (kc (cl (v := .bool r479) rfl (cns rfl (cns rfl rfl)) rfl (laws_eqBook_ok (Book.mk r455 ([] : List Int) ([] : List Tally)) (Book.mk 0 ([] : List Int) ([] : List Tally)) _ hx478) nm) (kx (uNot rfl) (kx (mvO rfl) ?_)))))
          rcases ite_some h with ⟨hb480, h⟩ | ⟨hb480, h⟩
          ·refine kx (guF rfl (congrArg Bool.not hb480) (mvO h477)) (kx (guF rfl (congrArg Bool.not hb480) (mvO h473)) (kx (guF rfl (congrArg Bool.not hb480) (bNeq rfl rfl)) (kx (pkF rfl (congrArg Bool.not hb480) rfl) (Rn (hA h474 (hA h475 (hN rfl hZ))) fun e481 h483 h484 h485 => ?_))))
           clear h472 h473 h474 h475 h476 h477
           obtain rfl := si h
           exact kd (show laws_FnExactStateOn_c3_Q r133 r381 M135.length (([] : Mem).length) M382.length _ _ from ⟨rfl, h483, h484, h485, o467⟩)
          refine kx (gsF rfl (congrArg Bool.not hb480)) (kx (gsF rfl (congrArg Bool.not hb480)) (kx (gsF rfl (congrArg Bool.not hb480)) (kx (pkT rfl (congrArg Bool.not hb480) rfl) (Rn (hA h474 (hA h475 (hV (.bool true) rfl hZ))) fun e486 h488 h489 h490 => ?_))))
          clear h472 h473 h474 h475 h476 h477
          obtain rfl := si h
          exact kd (show laws_FnExactStateOn_c3_Q r133 r381 M135.length (([] : Mem).length) M382.length _ _ from ⟨rfl, h488, h489, h490, o467⟩)) ?_
      revert h hr534
      revert r533
      intro y493 hr534 h
      intro x e491 M492 hq532
      obtain ⟨rfl, h494, h495, h496, o497⟩ := hq532
      refine sN ?_
      rcases ite_some h with ⟨hb498, h⟩ | ⟨hb498, h⟩
      ·refine cT h496 hb498 (sq (Rg (kx (mvO rfl) (Rn (hV (.bool false) rfl hZ) fun e499 h501 => sN (xx (sR ?_))))))
       clear h494 h495 h496
       obtain rfl := si h
       exact eR (resT h501 res0) rfl
      obtain ⟨r508, hx507, h⟩ := bind_some h
      refine cF h496 hb498 (xx (sN (sq (Rg (kx (mvO rfl) (Rn (hV (.loc M135.length 1 0 0) h494 (hV (.int .i64 r381) h495 (hV (.int .i64 1) rfl hZ))) fun e502 h504 h505 h506 => sN (sq (Rg (kx (ldOA h504 o497 rfl rfl (ble rfl) rfl) (kx (mvO h506) (kc (cl (v := .int .i64 r508) rfl (cns rfl (cns rfl rfl)) rfl (laws_heldBook_ok (Book.mk r133 ([] : List Int) ([] : List Tally)) 1 _ hx507) nm) (kx (mvO rfl) (Rn (hA h505 (hN rfl hZ)) fun e509 h511 h512 => sN (sq (sq (Rg (kx (mvO h512) (kx (bLss rfl rfl) (Rn (hA h511 (hA h512 (hN rfl hZ))) fun e513 h515 h516 h517 => sN ?_)))))))))))))))))))
      clear h494 h495 h496 h504 h505 h511 h512
      rcases ite_some h with ⟨hb518, h⟩ | ⟨hb518, h⟩
      ·refine cT h517 hb518 (sq (Rg (kx (mvO rfl) (Rn (hV (.bool false) rfl hZ) fun e519 h521 => sN (xx (sR ?_))))))
       clear h515 h516 h517
       obtain rfl := si h
       exact eR (resT h521 res0) rfl
      refine cF h517 hb518 (xx (sN (sq (sq (Rg (kx (mvO h516) (kx (mvO h515) (kx (bNeq rfl rfl) (Rn (hN rfl hZ) fun e522 h524 => sN ?_)))))))))
      clear h515 h516 h517
      rcases ite_some h with ⟨hb525, h⟩ | ⟨hb525, h⟩
      ·refine cT h524 hb525 (sq (Rg (kx (mvO rfl) (Rn (hV (.bool false) rfl hZ) fun e526 h528 => sN (xx (sR ?_))))))
       clear h524
       obtain rfl := si h
       exact eR (resT h528 res0) rfl
      refine cF h524 hb525 (xx (sN (sq (Rg (kx (mvO rfl) (Rn (hV (.bool true) rfl hZ) fun e529 h531 => sN (xx ?_)))))))
      clear h524
      obtain rfl := si h
      exact eR (resT h531 res0) rfl
     refine kc (cl (v := .tup [.agg [.int .i64 r535, .sl (some 2) (r536.map (cI .i64)), .sl (some 75) (r537.map Tally.c)], .int .i64 0]) rfl (cns rfl (cns rfl (cns rfl rfl))) rfl (impl_StateOn_ok (Book.mk r449 r450 r451) r453 a3 _ hx454) nm) (kx (mvO rfl) (kx (exT rfl rfl) (kx (exT rfl rfl) (ku (alO zero33) fun M539 hM540 => ?_))))
     have o541 := push_old hM540 o386
     have ne542 := ne_new o386
     have o543 := push_old hM540 o387
     have ne544 := ne_new o387
     have o545 : M539[M382.length]? = some (.live ⟨.box, 33, 3, [[.int .i64 0, .nils, .nils]]⟩) := push_new hM540
     refine kw (stO rfl rfl o545 rfl rfl ⟨rfl, ble rfl⟩ rfl rfl) fun M546 hM547 => ?_
     have o548 := set_ne hM547 ne542 o541
     have o549 := set_ne hM547 ne544 o543
     have o550 : M546[M382.length]? = some (.live ⟨.box, 33, 3, [[.int .i64 r535, .sl none (r536.map (cI .i64)), .sl none (r537.map Tally.c)]]⟩) := set_same hM547 o545
     obtain ⟨r614, hr615, h⟩ := bind_some h
     refine kx (mvO rfl) (Rn (hA h439 (hA h440 (hA h441 (hA h442 (hV (.loc M382.length 1 0 0) rfl (hV (.int .i64 0) rfl hZ)))))) fun e551 h553 h554 h555 h556 h557 h558 => sN (sq (sq ?_)))
     clear h436 h437 h438 h439 h440 h441 h442 h443
     refine Ev.cut (Q1 := laws_FnExactStateOn_c4_Q r133 r381 M135.length (([] : Mem).length) M382.length r614) (by
         have h := hr615
         obtain ⟨r560, hx559, h⟩ := bind_some h
         refine Rg (kx (ldOA h557 o550 rfl rfl (ble rfl) rfl) (kx (ldOA h553 o549 rfl rfl (ble rfl) rfl) (kc (cl (v := .bool r560) rfl (cns rfl (cns rfl rfl)) rfl (laws_eqBook_ok (Book.mk r535 r536 r537) (Book.mk 0 ([] : List Int) ([] : List Tally)) _ hx559) nm) (kx (uNot rfl) (kx (mvO rfl) ?_)))))
         rcases ite_some h with ⟨hb561, h⟩ | ⟨hb561, h⟩
         ·refine kx (guF rfl (congrArg Bool.not hb561) (mvO h558)) (kx (guF rfl (congrArg Bool.not hb561) (mvO h554)) (kx (guF rfl (congrArg Bool.not hb561) (bNeq rfl rfl)) (kx (pkF rfl (congrArg Bool.not hb561) rfl) (Rn (hA h555 (hA h556 (hN rfl hZ))) fun e562 h564 h565 h566 => ?_))))
          clear h553 h554 h555 h556 h557 h558
          obtain rfl := si h
          exact kd (show laws_FnExactStateOn_c4_Q r133 r381 M135.length (([] : Mem).length) M382.length _ _ from ⟨rfl, h564, h565, h566, o548⟩)
         refine kx (gsF rfl (congrArg Bool.not hb561)) (kx (gsF rfl (congrArg Bool.not hb561)) (kx (gsF rfl (congrArg Bool.not hb561)) (kx (pkT rfl (congrArg Bool.not hb561) rfl) (Rn (hA h555 (hA h556 (hV (.bool true) rfl hZ))) fun e567 h569 h570 h571 => ?_))))
         clear h553 h554 h555 h556 h557 h558
         obtain rfl := si h
         exact kd (show laws_FnExactStateOn_c4_Q r133 r381 M135.length (([] : Mem).length) M382.length _ _ from ⟨rfl, h569, h570, h571, o548⟩)) ?_
     revert h hr615
     revert r614
     intro y574 hr615 h
     intro x e572 M573 hq613
     obtain ⟨rfl, h575, h576, h577, o578⟩ := hq613
     refine sN ?_
     rcases ite_some h with ⟨hb579, h⟩ | ⟨hb579, h⟩
     ·refine cT h577 hb579 (sq (Rg (kx (mvO rfl) (Rn (hV (.bool false) rfl hZ) fun e580 h582 => sN (xx (sR ?_))))))
      clear h575 h576 h577
      obtain rfl := si h
      exact eR (resT h582 res0) rfl
     obtain ⟨r589, hx588, h⟩ := bind_some h
     refine cF h577 hb579 (xx (sN (sq (Rg (kx (mvO rfl) (Rn (hV (.loc M135.length 1 0 0) h575 (hV (.int .i64 r381) h576 (hV (.int .i64 1) rfl hZ))) fun e583 h585 h586 h587 => sN (sq (Rg (kx (ldOA h585 o578 rfl rfl (ble rfl) rfl) (kx (mvO h587) (kc (cl (v := .int .i64 r589) rfl (cns rfl (cns rfl rfl)) rfl (laws_heldBook_ok (Book.mk r133 ([] : List Int) ([] : List Tally)) 1 _ hx588) nm) (kx (mvO rfl) (Rn (hA h586 (hN rfl hZ)) fun e590 h592 h593 => sN (sq (sq (Rg (kx (mvO h593) (kx (bLss rfl rfl) (Rn (hA h592 (hA h593 (hN rfl hZ))) fun e594 h596 h597 h598 => sN ?_)))))))))))))))))))
     clear h575 h576 h577 h585 h586 h592 h593
     rcases ite_some h with ⟨hb599, h⟩ | ⟨hb599, h⟩
     ·refine cT h598 hb599 (sq (Rg (kx (mvO rfl) (Rn (hV (.bool false) rfl hZ) fun e600 h602 => sN (xx (sR ?_))))))
      clear h596 h597 h598
      obtain rfl := si h
      exact eR (resT h602 res0) rfl
     refine cF h598 hb599 (xx (sN (sq (sq (Rg (kx (mvO h597) (kx (mvO h596) (kx (bNeq rfl rfl) (Rn (hN rfl hZ) fun e603 h605 => sN ?_)))))))))
     clear h596 h597 h598
     rcases ite_some h with ⟨hb606, h⟩ | ⟨hb606, h⟩
     ·refine cT h605 hb606 (sq (Rg (kx (mvO rfl) (Rn (hV (.bool false) rfl hZ) fun e607 h609 => sN (xx (sR ?_))))))
      clear h605
      obtain rfl := si h
      exact eR (resT h609 res0) rfl
     refine cF h605 hb606 (xx (sN (sq (Rg (kx (mvO rfl) (Rn (hV (.bool true) rfl hZ) fun e610 h612 => sN (xx ?_)))))))
     clear h605
     obtain rfl := si h
     exact eR (resT h612 res0) rfl
    refine cT h259 (congrArg Bool.not hb260) (sq (Rg (kx (mvO rfl) (Rn (hV (.bool false) rfl hZ) fun e620 h622 => sN (xx (sR ?_))))))
    clear h250 h251 h252 h253 h254 h255 h256 h257 h258 h259
    obtain rfl := si h
    exact eR (resT h622 res0) rfl
   refine cT h242 (congrArg Bool.not hb243) (sq (Rg (kx (mvO rfl) (Rn (hV (.bool false) rfl hZ) fun e623 h625 => sN (xx (sR ?_))))))
   clear h233 h234 h235 h236 h237 h238 h239 h240 h241 h242
   obtain rfl := si h
   exact eR (resT h625 res0) rfl
  refine Ev.nxcp (Ev.callT (v := .tup [.agg [.int .i64 r629, .sl (some 2) (r630.map (cI .i64)), .sl (some 75) (r631.map Tally.c)], .int .i64 0]) rfl (cns rfl (cns rfl (cns rfl rfl))) (ra1 (ra_agg (mp1 rfl (mp1 (ra1_row o115 rfl (cI_fl _)) (mp1 (ra1_row o116 rfl Tally.fl) mp0)))) (ra1 (ra1_row o122 rfl Deal.fl) (ra1 rfl ra0))) (impl_StateOn_ok (Book.mk r72 r73 r74) r110 a3 _ hx132) (th_gen (v' := .tup [.agg [.int .i64 r629, .lsl M112.length r630.length 0 r630.length, .lsl (M112.length + 1) r631.length 0 r631.length], .int .i64 0]) (l := [⟨.grow, 2, 1, r630.map (cI .i64)⟩, ⟨.grow, 75, 5, r631.map Tally.c⟩]) (own_tup (oa1 (own2_agg (oa1 rfl (oa1 (own1_row' (c := (cI .i64)) (fun _ => rfl)) (oa1 (own1_row' (c := Tally.c) Tally.flF) oa0)))) (oa1 rfl oa0))) (by simp [thaw, thaw2, thaw1, thawL, co2, co75]) rfl rfl)) fun M634 hM635 => ?_
  have o636 := push_old hM635 o114
  have o637 := push_old hM635 o115
  have o638 := push_old hM635 o116
  have o639 := push_old hM635 o117
  have o640 := push_old hM635 o122
  have ne641 : ([] : Mem).length ≠ M112.length := by have := lt_of_get (M := M112) o114; omega
  have ne642 : M61.length ≠ M112.length := by have := lt_of_get (M := M112) o115; omega
  have ne643 : (M61.length + 1) ≠ M112.length := by have := lt_of_get (M := M112) o116; omega
  have ne644 : M77.length ≠ M112.length := by have := lt_of_get (M := M112) o117; omega
  have ne645 : M95.length ≠ M112.length := by have := lt_of_get (M := M112) o122; omega
  have o646 : M634[M112.length]? = some (.live ⟨.grow, 2, 1, r630.map (cI .i64)⟩) := push_at hM635 0 rfl
  have ne647 : ([] : Mem).length ≠ (M112.length + 1) := by have := lt_of_get (M := M112) o114; omega
  have ne648 : M61.length ≠ (M112.length + 1) := by have := lt_of_get (M := M112) o115; omega
  have ne649 : (M61.length + 1) ≠ (M112.length + 1) := by have := lt_of_get (M := M112) o116; omega
  have ne650 : M77.length ≠ (M112.length + 1) := by have := lt_of_get (M := M112) o117; omega
  have ne651 : M95.length ≠ (M112.length + 1) := by have := lt_of_get (M := M112) o122; omega
  have ne652 : M112.length ≠ (M112.length + 1) := by omega
  have o653 : M634[(M112.length + 1)]? = some (.live ⟨.grow, 75, 5, r631.map Tally.c⟩) := push_at hM635 1 rfl
  refine kx (mvO rfl) (kx (exT rfl rfl) (kx (exT rfl rfl) (ku (alO zero33) fun M655 hM656 => ?_)))
  have o657 := push_old hM656 o636
  have ne658 := ne_new o636
  have o659 := push_old hM656 o637
  have ne660 := ne_new o637
  have o661 := push_old hM656 o638
  have ne662 := ne_new o638
  have o663 := push_old hM656 o639
  have ne664 := ne_new o639
  have o665 := push_old hM656 o640
  have ne666 := ne_new o640
  have o667 := push_old hM656 o646
  have ne668 := ne_new o646
  have o669 := push_old hM656 o653
  have ne670 := ne_new o653
  have o671 : M655[M634.length]? = some (.live ⟨.box, 33, 3, [[.int .i64 0, .nils, .nils]]⟩) := push_new hM656
  refine kw (stO rfl rfl o671 rfl rfl ⟨rfl, ble rfl⟩ (all1 rfl (all1 (okL o667 (by simp)) (all1 (okL o669 (by simp)) all0))) rfl) fun M672 hM673 => ?_
  have o674 := set_ne hM673 ne658 o657
  have o675 := set_ne hM673 ne660 o659
  have o676 := set_ne hM673 ne662 o661
  have o677 := set_ne hM673 ne664 o663
  have o678 := set_ne hM673 ne666 o665
  have o679 := set_ne hM673 ne668 o667
  have o680 := set_ne hM673 ne670 o669
  have o681 : M672[M634.length]? = some (.live ⟨.box, 33, 3, [[.int .i64 r629, .lsl M112.length r630.length 0 r630.length, .lsl (M112.length + 1) r631.length 0 r631.length]]⟩) := set_same hM673 o671
  obtain ⟨r1177, hr1178, h⟩ := bind_some h
  refine kx (mvO rfl) (Rn (hA h125 (hA h126 (hA h127 (hA h128 (hA h129 (hA h130 (hA h131 (hV (.loc M634.length 1 0 0) rfl (hV (.int .i64 0) rfl hZ))))))))) fun e682 h684 h685 h686 h687 h688 h689 h690 h691 h692 => sN (sq (sq ?_)))
  clear h125 h126 h127 h128 h129 h130 h131
  refine Ev.cut (Q1 := laws_FnExactStateOn_c5_Q a1 a2 a3 r56 r72 r73 r74 r110 r629 r630 r631 (([] : Mem).length) M61.length (M61.length + 1) M77.length M95.length M112.length (M112.length + 1) M634.length r1177) (by
      have h := hr1178
      obtain ⟨r694, hx693, h⟩ := bind_some h
      refine Rg (kx (ldOA h691 o681 rfl rfl (ble rfl) rfl) (kx (ldOA h687 o674 rfl rfl (ble rfl) rfl) (kc (cl (v := .bool r694) rfl (cns rfl (cns rfl rfl)) (ra1 (ra_agg (mp1 rfl (mp1 (ra1_row o679 rfl (cI_fl _)) (mp1 (ra1_row o680 rfl Tally.fl) mp0)))) (ra1 rfl ra0)) (laws_eqBook_ok (Book.mk r629 r630 r631) (Book.mk 0 ([] : List Int) ([] : List Tally)) _ hx693) (fun _ => rfl)) (kx (uNot rfl) (kx (mvO rfl) ?_)))))
      rcases ite_some h with ⟨hb695, h⟩ | ⟨hb695, h⟩
      ·refine kx (guF rfl (congrArg Bool.not hb695) (mvO h692)) (kx (guF rfl (congrArg Bool.not hb695) (mvO h688)) (kx (guF rfl (congrArg Bool.not hb695) (bNeq rfl rfl)) (kx (pkF rfl (congrArg Bool.not hb695) rfl) (Rn (hA h684 (hA h685 (hA h686 (hA h687 (hA h688 (hA h689 (hA h690 (hA h691 (hA h692 (hN rfl hZ)))))))))) fun e696 h698 h699 h700 h701 h702 h703 h704 h705 h706 h707 => ?_))))
       clear h684 h685 h686 h687 h688 h689 h690 h691 h692
       obtain rfl := si h
       exact kd (show laws_FnExactStateOn_c5_Q a1 a2 a3 r56 r72 r73 r74 r110 r629 r630 r631 (([] : Mem).length) M61.length (M61.length + 1) M77.length M95.length M112.length (M112.length + 1) M634.length _ _ from ⟨rfl, h698, h699, h700, h701, h702, h703, h704, h705, h706, h707, o678, o674, o679, o680, o681, o675, o676, o677⟩)
      refine kx (gsF rfl (congrArg Bool.not hb695)) (kx (gsF rfl (congrArg Bool.not hb695)) (kx (gsF rfl (congrArg Bool.not hb695)) (kx (pkT rfl (congrArg Bool.not hb695) rfl) (Rn (hA h684 (hA h685 (hA h686 (hA h687 (hA h688 (hA h689 (hA h690 (hA h691 (hA h692 (hV (.bool true) rfl hZ)))))))))) fun e708 h710 h711 h712 h713 h714 h715 h716 h717 h718 h719 => ?_))))
      clear h684 h685 h686 h687 h688 h689 h690 h691 h692
      obtain rfl := si h
      exact kd (show laws_FnExactStateOn_c5_Q a1 a2 a3 r56 r72 r73 r74 r110 r629 r630 r631 (([] : Mem).length) M61.length (M61.length + 1) M77.length M95.length M112.length (M112.length + 1) M634.length _ _ from ⟨rfl, h710, h711, h712, h713, h714, h715, h716, h717, h718, h719, o678, o674, o679, o680, o681, o675, o676, o677⟩)) ?_
  revert h hr1178
  revert r1177
  intro y722 hr1178 h
  intro x e720 M721 hq1176
  obtain ⟨rfl, h723, h724, h725, h726, h727, h728, h729, h730, h731, h732, o733, o734, o735, o736, o737, o738, o739, o740⟩ := hq1176
  refine sN ?_
  rcases ite_some h with ⟨hb741, h⟩ | ⟨hb741, h⟩
  ·refine cT h732 hb741 (sq (Rg (kx (mvO rfl) (Rn (hV (.bool false) rfl hZ) fun e742 h744 => sN (xx (sR ?_))))))
   clear h723 h724 h725 h726 h727 h728 h729 h730 h731 h732
   obtain rfl := si h
   exact eR (resT h744 res0) rfl
  obtain ⟨⟨r746, r747, r748⟩, hx745, h⟩ := bind_some h
  obtain ⟨r750, hx749, h⟩ := bind_some h
  refine cF h732 hb741 (xx (sN (sq (sq (Rd (kf (ldOA h728 o740 rfl rfl (ble rfl) rfl) (kf (ldPA h725 rfl rfl) (fc (cl (v := .agg [.int .i64 r746, .sl (some 2) (r747.map (cI .i64)), .sl (some 75) (r748.map Tally.c)]) rfl (cns rfl rfl) rfl (laws_toBook_ok a1 _ hx745) nm) (fc (cl (v := .bool r750) rfl (cns rfl (cns rfl rfl)) (ra1 (ra_agg (mp1 rfl (mp1 (ra1_row o738 rfl (cI_fl _)) (mp1 (ra1_row o739 rfl Tally.fl) mp0)))) (ra1 rfl ra0)) (laws_eqBook_ok (Book.mk r72 r73 r74) (Book.mk r746 r747 r748) _ hx749) (fun _ => rfl)) (kf (uNot rfl) (fZ (Rn (hV (.sl none (a2.map Deal.c)) h723 (hV (.int .i64 a3) h724 (hV (.pt none [.int .i64 a1.Day, .sl none (a1.Cash.map (cI .i64)), .sl none (a1.Tallies.map Tally.c)]) h725 (hV (.loc ([] : Mem).length 1 0 0) h726 (hV (.int .i64 r56) h727 (hV (.loc M77.length 1 0 0) h728 (hV (.lsl M95.length r110.length 0 r110.length) h729 (hV (.loc M634.length 1 0 0) h730 (hV (.int .i64 0) h731 (hN rfl hZ)))))))))) fun e751 h753 h754 h755 h756 h757 h758 h759 h760 h761 h762 => sN ?_))))))))))))
  clear h723 h724 h725 h726 h727 h728 h729 h730 h731 h732
  rcases ite_some h with ⟨hb763, h⟩ | ⟨hb763, h⟩
  ·obtain ⟨r765, hx764, h⟩ := bind_some h
   obtain ⟨r767, hx766, h⟩ := bind_some h
   refine cF h762 (congrArg Bool.not hb763) (xx (sN (sq (sq (Rg (kx (mvO h759) (kx (mvO h753) (kc (cl (v := .sl (some 65) (r765.map Deal.c)) rfl (cns rfl rfl) rfl (laws_toDealS_ok a2 _ hx764) nm) (kc (cl (v := .bool r767) rfl (cns rfl (cns rfl rfl)) (ra1 (ra1_row o733 rfl Deal.fl) (ra1 rfl ra0)) (laws_eqDealS_ok r110 r765 _ hx766) (fun _ => rfl)) (kx (uNot rfl) (Rn (hA h753 (hA h754 (hA h755 (hA h756 (hA h757 (hA h758 (hA h759 (hA h760 (hA h761 (hN rfl hZ)))))))))) fun e768 h770 h771 h772 h773 h774 h775 h776 h777 h778 h779 => sN ?_)))))))))))
   clear h753 h754 h755 h756 h757 h758 h759 h760 h761 h762
   rcases ite_some h with ⟨hb780, h⟩ | ⟨hb780, h⟩
   ·obtain ⟨⟨r794, r795, r796⟩, hx793, h⟩ := bind_some h
    refine cF h779 (congrArg Bool.not hb780) (xx (sN (sq (Rg (kx (mvO rfl) (Rn (hA h770 (hA h771 (hA h772 (hA h773 (hA h774 (hA h775 (hA h776 (hA h777 (hA h778 (hV (.int .i64 1) rfl hZ)))))))))) fun e781 h783 h784 h785 h786 h787 h788 h789 h790 h791 h792 => sN (sq (Rg (kx (ldOA h788 o740 rfl rfl (ble rfl) rfl) (kx (mvO h792) (Ev.nxw (Ev.callW rfl (cns rfl (cns rfl rfl)) (laws_markBook_ll_ok r72 r73 r74 1 M61.length (M61.length + 1) ne83 M721 o738 o739 _ hx793)) fun v799 M797 hq798 => ?_)))))))))))
    clear h770 h771 h772 h773 h774 h775 h776 h777 h778 h779
    obtain ⟨hv799, o800, o801, fr802, hl803, hl804⟩ := hq798
    have hv799 : v799 = .int .i64 r794 := hv799
    subst hv799
    have o805 : M797[M61.length]? = some (.live ⟨.grow, 2, 1, r795.map (cI .i64)⟩) := o800
    have o806 : M797[(M61.length + 1)]? = some (.live ⟨.grow, 75, 5, r796.map Tally.c⟩) := o801
    have hl803 : r795.length = r73.length := hl803
    have hl804 : r796.length = r74.length := hl804
    have o807 : M797[M95.length]? = some (.live ⟨.grow, 65, 6, r110.map Deal.c⟩) := fr802 _ _ (niC (Ne.symm ne119) (niC (Ne.symm ne120) niN)) o733
    have o808 : M797[([] : Mem).length]? = some (.live ⟨.box, 33, 3, [[.int .i64 0, .nils, .nils]]⟩) := fr802 _ _ (niC ne80 (niC ne82 niN)) o734
    have o809 : M797[M112.length]? = some (.live ⟨.grow, 2, 1, r630.map (cI .i64)⟩) := fr802 _ _ (niC (Ne.symm ne642) (niC (Ne.symm ne643) niN)) o735
    have o810 : M797[(M112.length + 1)]? = some (.live ⟨.grow, 75, 5, r631.map Tally.c⟩) := fr802 _ _ (niC (Ne.symm ne648) (niC (Ne.symm ne649) niN)) o736
    have o811 : M797[M634.length]? = some (.live ⟨.box, 33, 3, [[.int .i64 r629, .lsl M112.length r630.length 0 r630.length, .lsl (M112.length + 1) r631.length 0 r631.length]]⟩) := fr802 _ _ (niC (Ne.symm ne660) (niC (Ne.symm ne662) niN)) o737
    have o812 : M797[M77.length]? = some (.live ⟨.box, 33, 3, [[.int .i64 r72, .lsl M61.length r73.length 0 r73.length, .lsl (M61.length + 1) r74.length 0 r74.length]]⟩) := fr802 _ _ (niC (Ne.symm ne91) (niC (Ne.symm ne93) niN)) o740
    obtain ⟨⟨r825, r826⟩, hx824, h⟩ := bind_some h
    refine kx (mvO rfl) (Rn (hA h783 (hA h784 (hA h785 (hA h786 (hA h787 (hA h789 (hA h790 (hA h791 (hN rfl hZ))))))))) fun e813 h815 h816 h817 h818 h819 h820 h821 h822 h823 => sN (sq (Rg (kx (mvO h820) (kx (mvO h823) (Ev.nxw (Ev.callW rfl (cns rfl (cns rfl rfl)) (laws_markDealS_l_ok r110 r794 M95.length M797 o807 _ hx824)) fun v829 M827 hq828 => ?_))))))
    clear h783 h784 h785 h786 h787 h788 h789 h790 h791
    obtain ⟨hv829, o830, fr831, hl832⟩ := hq828
    have hv829 : v829 = .int .i64 r825 := hv829
    subst hv829
    have o833 : M827[M95.length]? = some (.live ⟨.grow, 65, 6, r826.map Deal.c⟩) := o830
    have hl832 : r826.length = r110.length := hl832
    have o834 : M827[([] : Mem).length]? = some (.live ⟨.box, 33, 3, [[.int .i64 0, .nils, .nils]]⟩) := fr831 _ _ (niC ne118 niN) o808
    have o835 : M827[M112.length]? = some (.live ⟨.grow, 2, 1, r630.map (cI .i64)⟩) := fr831 _ _ (niC (Ne.symm ne645) niN) o809
    have o836 : M827[(M112.length + 1)]? = some (.live ⟨.grow, 75, 5, r631.map Tally.c⟩) := fr831 _ _ (niC (Ne.symm ne651) niN) o810
    have o837 : M827[M634.length]? = some (.live ⟨.box, 33, 3, [[.int .i64 r629, .lsl M112.length r630.length 0 r630.length, .lsl (M112.length + 1) r631.length 0 r631.length]]⟩) := fr831 _ _ (niC (Ne.symm ne666) niN) o811
    obtain ⟨r1168, hr1169, h⟩ := bind_some h
    refine kx (mvO rfl) (Rn (hA h815 (hA h816 (hA h817 (hA h818 (hA h819 (hA h821 (hA h822 (hN rfl hZ)))))))) fun e838 h840 h841 h842 h843 h844 h845 h846 h847 => sN (sq (sq ?_)))
    clear h815 h816 h817 h818 h819 h820 h821 h822
    refine Ev.cut (Q1 := laws_FnExactStateOn_c6_Q a1 a2 a3 r56 r629 r630 r631 (([] : Mem).length) M112.length (M112.length + 1) M634.length r1168) (by
        have h := hr1169
        refine Rg (kx (mvO h847) (kx (bLss rfl rfl) (kx (mvO rfl) ?_)))
        rcases ite_some h with ⟨hb848, h⟩ | ⟨hb848, h⟩
        ·refine kx (gsF rfl hb848) (kx (gsF rfl hb848) (kc (Ev.gsF rfl hb848) (kx (gsF rfl hb848) (kx (pkT rfl hb848 rfl) (kx (mvO rfl) (kx (gsF rfl rfl) (kx (gsF rfl rfl) (kx (gsF rfl rfl) (kx (pkT rfl rfl rfl) (Rn (hA h840 (hA h841 (hA h842 (hA h843 (hA h844 (hA h845 (hV (.bool true) rfl hZ))))))) fun e849 h851 h852 h853 h854 h855 h856 h857 => ?_))))))))))
         clear h840 h841 h842 h843 h844 h845 h846 h847
         obtain rfl := si h
         exact kd (show laws_FnExactStateOn_c6_Q a1 a2 a3 r56 r629 r630 r631 (([] : Mem).length) M112.length (M112.length + 1) M634.length _ _ from ⟨rfl, h851, h852, h853, h854, h855, h856, h857, o834, o835, o836, o837⟩)
        obtain ⟨r859, hx858, h⟩ := bind_some h
        refine kx (guF rfl hb848 (ldOA h845 o837 rfl rfl (ble rfl) rfl)) (kx (guF rfl hb848 (ldOA h843 o834 rfl rfl (ble rfl) rfl)) (kc (Ev.guF rfl hb848 (cl (v := .bool r859) rfl (cns rfl (cns rfl rfl)) (ra1 (ra_agg (mp1 rfl (mp1 (ra1_row o835 rfl (cI_fl _)) (mp1 (ra1_row o836 rfl Tally.fl) mp0)))) (ra1 rfl ra0)) (laws_eqBook_ok (Book.mk r629 r630 r631) (Book.mk 0 ([] : List Int) ([] : List Tally)) _ hx858) (fun _ => rfl))) (kx (guF rfl hb848 (uNot rfl)) (kx (pkF rfl hb848 rfl) (kx (mvO rfl) ?_)))))
        rcases ite_some h with ⟨hb860, h⟩ | ⟨hb860, h⟩
        ·refine kx (guF rfl (congrArg Bool.not hb860) (mvO h846)) (kx (guF rfl (congrArg Bool.not hb860) (mvO h844)) (kx (guF rfl (congrArg Bool.not hb860) (bNeq rfl rfl)) (kx (pkF rfl (congrArg Bool.not hb860) rfl) (Rn (hA h840 (hA h841 (hA h842 (hA h843 (hA h844 (hA h845 (hN rfl hZ))))))) fun e861 h863 h864 h865 h866 h867 h868 h869 => ?_))))
         clear h840 h841 h842 h843 h844 h845 h846 h847
         obtain rfl := si h
         exact kd (show laws_FnExactStateOn_c6_Q a1 a2 a3 r56 r629 r630 r631 (([] : Mem).length) M112.length (M112.length + 1) M634.length _ _ from ⟨rfl, h863, h864, h865, h866, h867, h868, h869, o834, o835, o836, o837⟩)
        refine kx (gsF rfl (congrArg Bool.not hb860)) (kx (gsF rfl (congrArg Bool.not hb860)) (kx (gsF rfl (congrArg Bool.not hb860)) (kx (pkT rfl (congrArg Bool.not hb860) rfl) (Rn (hA h840 (hA h841 (hA h842 (hA h843 (hA h844 (hA h845 (hV (.bool true) rfl hZ))))))) fun e870 h872 h873 h874 h875 h876 h877 h878 => ?_))))
        clear h840 h841 h842 h843 h844 h845 h846 h847
        obtain rfl := si h
        exact kd (show laws_FnExactStateOn_c6_Q a1 a2 a3 r56 r629 r630 r631 (([] : Mem).length) M112.length (M112.length + 1) M634.length _ _ from ⟨rfl, h872, h873, h874, h875, h876, h877, h878, o834, o835, o836, o837⟩)) ?_
    revert h hr1169
    revert r1168
    intro y881 hr1169 h
    intro x e879 M880 hq1167
    obtain ⟨rfl, h882, h883, h884, h885, h886, h887, h888, o889, o890, o891, o892⟩ := hq1167
    refine sN ?_
    rcases ite_some h with ⟨hb893, h⟩ | ⟨hb893, h⟩
    ·refine cT h888 hb893 (sq (Rg (kx (mvO rfl) (Rn (hV (.bool false) rfl hZ) fun e894 h896 => sN (xx (sR ?_))))))
     clear h882 h883 h884 h885 h886 h887 h888
     obtain rfl := si h
     exact eR (resT h896 res0) rfl
    obtain ⟨⟨r907, r908, r909⟩, hx906, h⟩ := bind_some h
    refine cF h888 hb893 (xx (sN (sq (Rg (kx (mvO rfl) (Rn (hV (.sl none (a2.map Deal.c)) h882 (hV (.int .i64 a3) h883 (hV (.pt none [.int .i64 a1.Day, .sl none (a1.Cash.map (cI .i64)), .sl none (a1.Tallies.map Tally.c)]) h884 (hV (.loc ([] : Mem).length 1 0 0) h885 (hV (.int .i64 r56) h886 (hV (.loc M634.length 1 0 0) h887 (hV (.int .i64 1) rfl hZ))))))) fun e897 h899 h900 h901 h902 h903 h904 h905 => sN (sq (Rg (kx (ldOA h904 o892 rfl rfl (ble rfl) rfl) (kx (mvO h905) (Ev.nxw (Ev.callW rfl (cns rfl (cns rfl rfl)) (laws_markBook_ll_ok r629 r630 r631 1 M112.length (M112.length + 1) ne652 M880 o890 o891 _ hx906)) fun v912 M910 hq911 => ?_)))))))))))
    clear h882 h883 h884 h885 h886 h887 h888
    obtain ⟨hv912, o913, o914, fr915, hl916, hl917⟩ := hq911
    have hv912 : v912 = .int .i64 r907 := hv912
    subst hv912
    have o918 : M910[M112.length]? = some (.live ⟨.grow, 2, 1, r908.map (cI .i64)⟩) := o913
    have o919 : M910[(M112.length + 1)]? = some (.live ⟨.grow, 75, 5, r909.map Tally.c⟩) := o914
    have hl916 : r908.length = r630.length := hl916
    have hl917 : r909.length = r631.length := hl917
    have o920 : M910[([] : Mem).length]? = some (.live ⟨.box, 33, 3, [[.int .i64 0, .nils, .nils]]⟩) := fr915 _ _ (niC ne641 (niC ne647 niN)) o889
    have o921 : M910[M634.length]? = some (.live ⟨.box, 33, 3, [[.int .i64 r629, .lsl M112.length r630.length 0 r630.length, .lsl (M112.length + 1) r631.length 0 r631.length]]⟩) := fr915 _ _ (niC (Ne.symm ne668) (niC (Ne.symm ne670) niN)) o892
    obtain ⟨r942, hx941, h⟩ := bind_some h
    refine kx (mvO rfl) (Rn (hA h899 (hA h900 (hA h901 (hA h902 (hA h903 (hA h904 (hN rfl hZ))))))) fun e922 h924 h925 h926 h927 h928 h929 h930 => sN (sq (Rg (kx (mvO rfl) (Rn (hA h924 (hA h925 (hA h926 (hA h927 (hA h928 (hA h929 (hA h930 (hV (.int .i64 1) rfl hZ)))))))) fun e931 h933 h934 h935 h936 h937 h938 h939 h940 => sN (sq (Rg (kx (ldOA h938 o921 rfl rfl (ble rfl) rfl) (kx (mvO h940) (kc (cl (v := .int .i64 r942) rfl (cns rfl (cns rfl rfl)) (ra1 (ra_agg (mp1 rfl (mp1 (ra1_row o918 (by simp [hl803, hl804, hl832, hl916, hl917]) (cI_fl _)) (mp1 (ra1_row o919 (by simp [hl803, hl804, hl832, hl916, hl917]) Tally.fl) mp0)))) (ra1 rfl ra0)) (laws_heldBook_ok (Book.mk r629 r908 r909) 1 _ hx941) (fun _ => rfl)) (kx (mvO rfl) (Rn (hA h933 (hA h934 (hA h935 (hA h936 (hA h937 (hA h938 (hA h939 (hN rfl hZ)))))))) fun e943 h945 h946 h947 h948 h949 h950 h951 h952 => sN (sq (sq (Rg (kx (mvO h952) (kx (bLss rfl rfl) (Rn (hA h945 (hA h946 (hA h947 (hA h948 (hA h949 (hA h950 (hA h951 (hA h952 (hN rfl hZ))))))))) fun e953 h955 h956 h957 h958 h959 h960 h961 h962 h963 => sN ?_))))))))))))))))))
    clear h899 h900 h901 h902 h903 h904 h924 h925 h926 h927 h928 h929 h930 h933 h934 h935 h936 h937 h938 h939 h945 h946 h947 h948 h949 h950 h951 h952
    rcases ite_some h with ⟨hb964, h⟩ | ⟨hb964, h⟩
    ·refine cT h963 hb964 (sq (Rg (kx (mvO rfl) (Rn (hV (.bool false) rfl hZ) fun e965 h967 => sN (xx (sR ?_))))))
     clear h955 h956 h957 h958 h959 h960 h961 h962 h963
     obtain rfl := si h
     exact eR (resT h967 res0) rfl
    refine cF h963 hb964 (xx (sN (sq (sq (Rg (kx (mvO h962) (kx (mvO h961) (kx (bNeq rfl rfl) (Rn (hA h955 (hA h956 (hA h957 (hA h958 (hA h959 (hA h960 (hA h961 (hN rfl hZ)))))))) fun e968 h970 h971 h972 h973 h974 h975 h976 h977 => sN ?_)))))))))
    clear h955 h956 h957 h958 h959 h960 h961 h962 h963
    rcases ite_some h with ⟨hb978, h⟩ | ⟨hb978, h⟩
    ·refine cT h977 hb978 (sq (Rg (kx (mvO rfl) (Rn (hV (.bool false) rfl hZ) fun e979 h981 => sN (xx (sR ?_))))))
     clear h970 h971 h972 h973 h974 h975 h976 h977
     obtain rfl := si h
     exact eR (resT h981 res0) rfl
    obtain ⟨⟨r983, r984, r985⟩, hx982, h⟩ := bind_some h
    obtain ⟨r987, hx986, h⟩ := bind_some h
    obtain ⟨q1166, hx988, h⟩ := bind_some h
    refine cF h977 hb978 (xx (sN (sq (Rg (kx (ldPA h972 rfl rfl) (kc (cl (v := .agg [.int .i64 r983, .sl (some 2) (r984.map (cI .i64)), .sl (some 75) (r985.map Tally.c)]) rfl (cns rfl rfl) rfl (laws_toBook_ok a1 _ hx982) nm) (kx (mvO h970) (kc (cl (v := .sl (some 65) (r987.map Deal.c)) rfl (cns rfl rfl) rfl (laws_toDealS_ok a2 _ hx986) nm) (kx (mvO h971) ?_)))))))))
    rcases q1166 with ⟨r989, r990⟩ | ⟨r1077, r1078, r1079⟩
    ·refine kc (cl (v := .tup [.agg [.int .i64 r989, .nils, .nils], .int .i64 r990]) rfl (cns rfl (cns rfl (cns rfl rfl))) rfl (impl_StateOn_ok (Book.mk r983 r984 r985) r987 a3 _ hx988) nm) (kx (mvO rfl) (kx (exT rfl rfl) (kx (exT rfl rfl) (ku (alO zero33) fun M992 hM993 => ?_))))
     have o994 := push_old hM993 o920
     have ne995 := ne_new o920
     have o996 := push_old hM993 o918
     have ne997 := ne_new o918
     have o998 := push_old hM993 o919
     have ne999 := ne_new o919
     have o1000 := push_old hM993 o921
     have ne1001 := ne_new o921
     have o1002 : M992[M910.length]? = some (.live ⟨.box, 33, 3, [[.int .i64 0, .nils, .nils]]⟩) := push_new hM993
     refine kw (stO rfl rfl o1002 rfl rfl ⟨rfl, ble rfl⟩ rfl rfl) fun M1003 hM1004 => ?_
     have o1005 := set_ne hM1004 ne995 o994
     have o1006 := set_ne hM1004 ne997 o996
     have o1007 := set_ne hM1004 ne999 o998
     have o1008 := set_ne hM1004 ne1001 o1000
     have o1009 : M1003[M910.length]? = some (.live ⟨.box, 33, 3, [[.int .i64 r989, .nils, .nils]]⟩) := set_same hM1004 o1002
     obtain ⟨r1075, hr1076, h⟩ := bind_some h
     refine kx (mvO rfl) (Rn (hA h973 (hA h974 (hA h975 (hA h976 (hV (.loc M910.length 1 0 0) rfl (hN rfl hZ)))))) fun e1010 h1012 h1013 h1014 h1015 h1016 h1017 => sN (sq (sq ?_)))
     clear h970 h971 h972 h973 h974 h975 h976 h977
     refine Ev.cut (Q1 := laws_FnExactStateOn_c7_Q r629 r630 r631 r907 r908 r909 (([] : Mem).length) M112.length (M112.length + 1) M634.length M910.length r1075) (by
         have h := hr1076
         obtain ⟨r1019, hx1018, h⟩ := bind_some h
         refine Rg (kx (ldOA h1016 o1009 rfl rfl (ble rfl) rfl) (kx (ldOA h1012 o1005 rfl rfl (ble rfl) rfl) (kc (cl (v := .bool r1019) rfl (cns rfl (cns rfl rfl)) rfl (laws_eqBook_ok (Book.mk r989 ([] : List Int) ([] : List Tally)) (Book.mk 0 ([] : List Int) ([] : List Tally)) _ hx1018) nm) (kx (uNot rfl) (kx (mvO rfl) ?_)))))
         rcases ite_some h with ⟨hb1020, h⟩ | ⟨hb1020, h⟩
         ·refine kx (guF rfl (congrArg Bool.not hb1020) (mvO h1017)) (kx (guF rfl (congrArg Bool.not hb1020) (mvO h1013)) (kx (guF rfl (congrArg Bool.not hb1020) (bNeq rfl rfl)) (kx (pkF rfl (congrArg Bool.not hb1020) rfl) (Rn (hA h1014 (hA h1015 (hN rfl hZ))) fun e1021 h1023 h1024 h1025 => ?_))))
          clear h1012 h1013 h1014 h1015 h1016 h1017
          obtain rfl := si h
          exact kd (show laws_FnExactStateOn_c7_Q r629 r630 r631 r907 r908 r909 (([] : Mem).length) M112.length (M112.length + 1) M634.length M910.length _ _ from ⟨rfl, h1023, h1024, h1025, o1006, o1007, o1008⟩)
         refine kx (gsF rfl (congrArg Bool.not hb1020)) (kx (gsF rfl (congrArg Bool.not hb1020)) (kx (gsF rfl (congrArg Bool.not hb1020)) (kx (pkT rfl (congrArg Bool.not hb1020) rfl) (Rn (hA h1014 (hA h1015 (hV (.bool true) rfl hZ))) fun e1026 h1028 h1029 h1030 => ?_))))
         clear h1012 h1013 h1014 h1015 h1016 h1017
         obtain rfl := si h
         exact kd (show laws_FnExactStateOn_c7_Q r629 r630 r631 r907 r908 r909 (([] : Mem).length) M112.length (M112.length + 1) M634.length M910.length _ _ from ⟨rfl, h1028, h1029, h1030, o1006, o1007, o1008⟩)) ?_
     revert h hr1076
     revert r1075
     intro y1033 hr1076 h
     intro x e1031 M1032 hq1074
     obtain ⟨rfl, h1034, h1035, h1036, o1037, o1038, o1039⟩ := hq1074
     refine sN ?_
     rcases ite_some h with ⟨hb1040, h⟩ | ⟨hb1040, h⟩
     ·refine cT h1036 hb1040 (sq (Rg (kx (mvO rfl) (Rn (hV (.bool false) rfl hZ) fun e1041 h1043 => sN (xx (sR ?_))))))
      clear h1034 h1035 h1036
      obtain rfl := si h
      exact eR (resT h1043 res0) rfl
     obtain ⟨r1050, hx1049, h⟩ := bind_some h
     refine cF h1036 hb1040 (xx (sN (sq (Rg (kx (mvO rfl) (Rn (hV (.loc M634.length 1 0 0) h1034 (hV (.int .i64 r907) h1035 (hV (.int .i64 1) rfl hZ))) fun e1044 h1046 h1047 h1048 => sN (sq (Rg (kx (ldOA h1046 o1039 rfl rfl (ble rfl) rfl) (kx (mvO h1048) (kc (cl (v := .int .i64 r1050) rfl (cns rfl (cns rfl rfl)) (ra1 (ra_agg (mp1 rfl (mp1 (ra1_row o1037 (by simp [hl803, hl804, hl832, hl916, hl917]) (cI_fl _)) (mp1 (ra1_row o1038 (by simp [hl803, hl804, hl832, hl916, hl917]) Tally.fl) mp0)))) (ra1 rfl ra0)) (laws_heldBook_ok (Book.mk r629 r908 r909) 1 _ hx1049) (fun _ => rfl)) (kx (mvO rfl) (Rn (hA h1047 (hN rfl hZ)) fun e1051 h1053 h1054 => sN (sq (sq (Rg (kx (mvO h1054) (kx (bLss rfl rfl) (Rn (hA h1053 (hA h1054 (hN rfl hZ))) fun e1055 h1057 h1058 h1059 => sN ?_)))))))))))))))))))
     clear h1034 h1035 h1036 h1046 h1047 h1053 h1054
     rcases ite_some h with ⟨hb1060, h⟩ | ⟨hb1060, h⟩
     ·refine cT h1059 hb1060 (sq (Rg (kx (mvO rfl) (Rn (hV (.bool false) rfl hZ) fun e1061 h1063 => sN (xx (sR ?_))))))
      clear h1057 h1058 h1059
      obtain rfl := si h
      exact eR (resT h1063 res0) rfl
     refine cF h1059 hb1060 (xx (sN (sq (sq (Rg (kx (mvO h1058) (kx (mvO h1057) (kx (bNeq rfl rfl) (Rn (hN rfl hZ) fun e1064 h1066 => sN ?_)))))))))
     clear h1057 h1058 h1059
     rcases ite_some h with ⟨hb1067, h⟩ | ⟨hb1067, h⟩
     ·refine cT h1066 hb1067 (sq (Rg (kx (mvO rfl) (Rn (hV (.bool false) rfl hZ) fun e1068 h1070 => sN (xx (sR ?_))))))
      clear h1066
      obtain rfl := si h
      exact eR (resT h1070 res0) rfl
     refine cF h1066 hb1067 (xx (sN (sq (Rg (kx (mvO rfl) (Rn (hV (.bool true) rfl hZ) fun e1071 h1073 => sN (xx ?_)))))))
     clear h1066
     obtain rfl := si h
     exact eR (resT h1073 res0) rfl
    refine kc (cl (v := .tup [.agg [.int .i64 r1077, .sl (some 2) (r1078.map (cI .i64)), .sl (some 75) (r1079.map Tally.c)], .int .i64 0]) rfl (cns rfl (cns rfl (cns rfl rfl))) rfl (impl_StateOn_ok (Book.mk r983 r984 r985) r987 a3 _ hx988) nm) (kx (mvO rfl) (kx (exT rfl rfl) (kx (exT rfl rfl) (ku (alO zero33) fun M1081 hM1082 => ?_))))
    have o1083 := push_old hM1082 o920
    have ne1084 := ne_new o920
    have o1085 := push_old hM1082 o918
    have ne1086 := ne_new o918
    have o1087 := push_old hM1082 o919
    have ne1088 := ne_new o919
    have o1089 := push_old hM1082 o921
    have ne1090 := ne_new o921
    have o1091 : M1081[M910.length]? = some (.live ⟨.box, 33, 3, [[.int .i64 0, .nils, .nils]]⟩) := push_new hM1082
    refine kw (stO rfl rfl o1091 rfl rfl ⟨rfl, ble rfl⟩ rfl rfl) fun M1092 hM1093 => ?_
    have o1094 := set_ne hM1093 ne1084 o1083
    have o1095 := set_ne hM1093 ne1086 o1085
    have o1096 := set_ne hM1093 ne1088 o1087
    have o1097 := set_ne hM1093 ne1090 o1089
    have o1098 : M1092[M910.length]? = some (.live ⟨.box, 33, 3, [[.int .i64 r1077, .sl none (r1078.map (cI .i64)), .sl none (r1079.map Tally.c)]]⟩) := set_same hM1093 o1091
    obtain ⟨r1164, hr1165, h⟩ := bind_some h
    refine kx (mvO rfl) (Rn (hA h973 (hA h974 (hA h975 (hA h976 (hV (.loc M910.length 1 0 0) rfl (hV (.int .i64 0) rfl hZ)))))) fun e1099 h1101 h1102 h1103 h1104 h1105 h1106 => sN (sq (sq ?_)))
    clear h970 h971 h972 h973 h974 h975 h976 h977
    refine Ev.cut (Q1 := laws_FnExactStateOn_c8_Q r629 r630 r631 r907 r908 r909 (([] : Mem).length) M112.length (M112.length + 1) M634.length M910.length r1164) (by
        have h := hr1165
        obtain ⟨r1108, hx1107, h⟩ := bind_some h
        refine Rg (kx (ldOA h1105 o1098 rfl rfl (ble rfl) rfl) (kx (ldOA h1101 o1094 rfl rfl (ble rfl) rfl) (kc (cl (v := .bool r1108) rfl (cns rfl (cns rfl rfl)) rfl (laws_eqBook_ok (Book.mk r1077 r1078 r1079) (Book.mk 0 ([] : List Int) ([] : List Tally)) _ hx1107) nm) (kx (uNot rfl) (kx (mvO rfl) ?_)))))
        rcases ite_some h with ⟨hb1109, h⟩ | ⟨hb1109, h⟩
        ·refine kx (guF rfl (congrArg Bool.not hb1109) (mvO h1106)) (kx (guF rfl (congrArg Bool.not hb1109) (mvO h1102)) (kx (guF rfl (congrArg Bool.not hb1109) (bNeq rfl rfl)) (kx (pkF rfl (congrArg Bool.not hb1109) rfl) (Rn (hA h1103 (hA h1104 (hN rfl hZ))) fun e1110 h1112 h1113 h1114 => ?_))))
         clear h1101 h1102 h1103 h1104 h1105 h1106
         obtain rfl := si h
         exact kd (show laws_FnExactStateOn_c8_Q r629 r630 r631 r907 r908 r909 (([] : Mem).length) M112.length (M112.length + 1) M634.length M910.length _ _ from ⟨rfl, h1112, h1113, h1114, o1095, o1096, o1097⟩)
        refine kx (gsF rfl (congrArg Bool.not hb1109)) (kx (gsF rfl (congrArg Bool.not hb1109)) (kx (gsF rfl (congrArg Bool.not hb1109)) (kx (pkT rfl (congrArg Bool.not hb1109) rfl) (Rn (hA h1103 (hA h1104 (hV (.bool true) rfl hZ))) fun e1115 h1117 h1118 h1119 => ?_))))
        clear h1101 h1102 h1103 h1104 h1105 h1106
        obtain rfl := si h
        exact kd (show laws_FnExactStateOn_c8_Q r629 r630 r631 r907 r908 r909 (([] : Mem).length) M112.length (M112.length + 1) M634.length M910.length _ _ from ⟨rfl, h1117, h1118, h1119, o1095, o1096, o1097⟩)) ?_
    revert h hr1165
    revert r1164
    intro y1122 hr1165 h
    intro x e1120 M1121 hq1163
    obtain ⟨rfl, h1123, h1124, h1125, o1126, o1127, o1128⟩ := hq1163
    refine sN ?_
    rcases ite_some h with ⟨hb1129, h⟩ | ⟨hb1129, h⟩
    ·refine cT h1125 hb1129 (sq (Rg (kx (mvO rfl) (Rn (hV (.bool false) rfl hZ) fun e1130 h1132 => sN (xx (sR ?_))))))
     clear h1123 h1124 h1125
     obtain rfl := si h
     exact eR (resT h1132 res0) rfl
    obtain ⟨r1139, hx1138, h⟩ := bind_some h
    refine cF h1125 hb1129 (xx (sN (sq (Rg (kx (mvO rfl) (Rn (hV (.loc M634.length 1 0 0) h1123 (hV (.int .i64 r907) h1124 (hV (.int .i64 1) rfl hZ))) fun e1133 h1135 h1136 h1137 => sN (sq (Rg (kx (ldOA h1135 o1128 rfl rfl (ble rfl) rfl) (kx (mvO h1137) (kc (cl (v := .int .i64 r1139) rfl (cns rfl (cns rfl rfl)) (ra1 (ra_agg (mp1 rfl (mp1 (ra1_row o1126 (by simp [hl803, hl804, hl832, hl916, hl917]) (cI_fl _)) (mp1 (ra1_row o1127 (by simp [hl803, hl804, hl832, hl916, hl917]) Tally.fl) mp0)))) (ra1 rfl ra0)) (laws_heldBook_ok (Book.mk r629 r908 r909) 1 _ hx1138) (fun _ => rfl)) (kx (mvO rfl) (Rn (hA h1136 (hN rfl hZ)) fun e1140 h1142 h1143 => sN (sq (sq (Rg (kx (mvO h1143) (kx (bLss rfl rfl) (Rn (hA h1142 (hA h1143 (hN rfl hZ))) fun e1144 h1146 h1147 h1148 => sN ?_)))))))))))))))))))
    clear h1123 h1124 h1125 h1135 h1136 h1142 h1143
    rcases ite_some h with ⟨hb1149, h⟩ | ⟨hb1149, h⟩
    ·refine cT h1148 hb1149 (sq (Rg (kx (mvO rfl) (Rn (hV (.bool false) rfl hZ) fun e1150 h1152 => sN (xx (sR ?_))))))
     clear h1146 h1147 h1148
     obtain rfl := si h
     exact eR (resT h1152 res0) rfl
    refine cF h1148 hb1149 (xx (sN (sq (sq (Rg (kx (mvO h1147) (kx (mvO h1146) (kx (bNeq rfl rfl) (Rn (hN rfl hZ) fun e1153 h1155 => sN ?_)))))))))
    clear h1146 h1147 h1148
    rcases ite_some h with ⟨hb1156, h⟩ | ⟨hb1156, h⟩
    ·refine cT h1155 hb1156 (sq (Rg (kx (mvO rfl) (Rn (hV (.bool false) rfl hZ) fun e1157 h1159 => sN (xx (sR ?_))))))
     clear h1155
     obtain rfl := si h
     exact eR (resT h1159 res0) rfl
    refine cF h1155 hb1156 (xx (sN (sq (Rg (kx (mvO rfl) (Rn (hV (.bool true) rfl hZ) fun e1160 h1162 => sN (xx ?_)))))))
    clear h1155
    obtain rfl := si h
    exact eR (resT h1162 res0) rfl
   refine cT h779 (congrArg Bool.not hb780) (sq (Rg (kx (mvO rfl) (Rn (hV (.bool false) rfl hZ) fun e1170 h1172 => sN (xx (sR ?_))))))
   clear h770 h771 h772 h773 h774 h775 h776 h777 h778 h779
   obtain rfl := si h
   exact eR (resT h1172 res0) rfl
  refine cT h762 (congrArg Bool.not hb763) (sq (Rg (kx (mvO rfl) (Rn (hV (.bool false) rfl hZ) fun e1173 h1175 => sN (xx (sR ?_))))))
  clear h753 h754 h755 h756 h757 h758 h759 h760 h761 h762
  obtain rfl := si h
  exact eR (resT h1175 res0) rfl
 refine kc (cl (v := .tup [.agg [.int .i64 r1180, .sl none (r1181.map (cI .i64)), .sl none (r1182.map Tally.c)], .int .i64 0]) rfl (cns rfl (cns rfl (cns rfl rfl))) rfl (spec_StateOn_ok (Book.mk r50 r51 r52) r54 a3 _ hx55) nm) (kx (mvO rfl) (kx (exT rfl rfl) (kx (exT rfl rfl) (ku (alO zero33) fun M1184 hM1185 => ?_))))
 have o1186 : M1184[([] : Mem).length]? = some (.live ⟨.box, 33, 3, [[.int .i64 0, .nils, .nils]]⟩) := push_new hM1185
 refine kw (stO rfl rfl o1186 rfl rfl ⟨rfl, ble rfl⟩ rfl rfl) fun M1187 hM1188 => ?_
 have o1189 : M1187[([] : Mem).length]? = some (.live ⟨.box, 33, 3, [[.int .i64 r1180, .sl none (r1181.map (cI .i64)), .sl none (r1182.map Tally.c)]]⟩) := set_same hM1188 o1186
 obtain ⟨⟨r1198, r1199, r1200⟩, hx1197, h⟩ := bind_some h
 refine kx (mvO rfl) (Rn (hA h41 (hA h42 (hA h43 (hV (.loc ([] : Mem).length 1 0 0) rfl (hV (.int .i64 0) rfl hZ))))) fun e1190 h1192 h1193 h1194 h1195 h1196 => sN (sq (Rg (kx (ldPA h1194 rfl rfl) (Ev.nxcp (Ev.callT (v := .agg [.int .i64 r1198, .sl (some 2) (r1199.map (cI .i64)), .sl (some 75) (r1200.map Tally.c)]) rfl (cns rfl rfl) rfl (laws_toBook_ok a1 _ hx1197) (th_gen (v' := .agg [.int .i64 r1198, .lsl M1187.length r1199.length 0 r1199.length, .lsl (M1187.length + 1) r1200.length 0 r1200.length]) (l := [⟨.grow, 2, 1, r1199.map (cI .i64)⟩, ⟨.grow, 75, 5, r1200.map Tally.c⟩]) (own_agg (oa1 rfl (oa1 (own1_row' (c := (cI .i64)) (fun _ => rfl)) (oa1 (own1_row' (c := Tally.c) Tally.flF) oa0)))) (by simp [thaw, thaw2, thaw1, thawL, co2, co75]) rfl rfl)) fun M1203 hM1204 => ?_)))))
 clear h41 h42 h43 h44
 have o1205 := push_old hM1204 o1189
 have ne1206 : ([] : Mem).length ≠ M1187.length := by have := lt_of_get (M := M1187) o1189; omega
 have o1207 : M1203[M1187.length]? = some (.live ⟨.grow, 2, 1, r1199.map (cI .i64)⟩) := push_at hM1204 0 rfl
 have ne1208 : ([] : Mem).length ≠ (M1187.length + 1) := by have := lt_of_get (M := M1187) o1189; omega
 have ne1209 : M1187.length ≠ (M1187.length + 1) := by omega
 have o1210 : M1203[(M1187.length + 1)]? = some (.live ⟨.grow, 75, 5, r1200.map Tally.c⟩) := push_at hM1204 1 rfl
 refine ku (alO zero33) fun M1212 hM1213 => ?_
 have o1214 := push_old hM1213 o1205
 have ne1215 := ne_new o1205
 have o1216 := push_old hM1213 o1207
 have ne1217 := ne_new o1207
 have o1218 := push_old hM1213 o1210
 have ne1219 := ne_new o1210
 have o1220 : M1212[M1203.length]? = some (.live ⟨.box, 33, 3, [[.int .i64 0, .nils, .nils]]⟩) := push_new hM1213
 refine kw (stO rfl rfl o1220 rfl rfl ⟨rfl, ble rfl⟩ (all1 rfl (all1 (okL o1216 (by simp)) (all1 (okL o1218 (by simp)) all0))) rfl) fun M1221 hM1222 => ?_
 have o1223 := set_ne hM1222 ne1215 o1214
 have o1224 := set_ne hM1222 ne1217 o1216
 have o1225 := set_ne hM1222 ne1219 o1218
 have o1226 : M1221[M1203.length]? = some (.live ⟨.box, 33, 3, [[.int .i64 r1198, .lsl M1187.length r1199.length 0 r1199.length, .lsl (M1187.length + 1) r1200.length 0 r1200.length]]⟩) := set_same hM1222 o1220
 obtain ⟨r1236, hx1235, h⟩ := bind_some h
 refine Rn (hA h1192 (hA h1193 (hA h1194 (hA h1195 (hA h1196 (hV (.loc M1203.length 1 0 0) rfl hZ)))))) fun e1227 h1229 h1230 h1231 h1232 h1233 h1234 => sN (sq (Rg (kx (mvO h1229) (Ev.nxcp (Ev.callT (v := .sl (some 65) (r1236.map Deal.c)) rfl (cns rfl rfl) rfl (laws_toDealS_ok a2 _ hx1235) (th_gen (v' := .lsl M1221.length r1236.length 0 r1236.length) (l := [⟨.grow, 65, 6, r1236.map Deal.c⟩]) (ownA_row (c := Deal.c) Deal.flF) (by simp [thaw, thaw2, thaw1, thawL, co65]) rfl rfl)) fun M1238 hM1239 => ?_))))
 clear h1192 h1193 h1194 h1195 h1196
 have o1240 := push_old hM1239 o1223
 have o1241 := push_old hM1239 o1224
 have o1242 := push_old hM1239 o1225
 have o1243 := push_old hM1239 o1226
 have ne1244 : ([] : Mem).length ≠ M1221.length := by have := lt_of_get (M := M1221) o1223; omega
 have ne1245 : M1187.length ≠ M1221.length := by have := lt_of_get (M := M1221) o1224; omega
 have ne1246 : (M1187.length + 1) ≠ M1221.length := by have := lt_of_get (M := M1221) o1225; omega
 have ne1247 : M1203.length ≠ M1221.length := by have := lt_of_get (M := M1221) o1226; omega
 have o1248 : M1238[M1221.length]? = some (.live ⟨.grow, 65, 6, r1236.map Deal.c⟩) := push_at hM1239 0 rfl
 obtain ⟨q2305, hx1258, h⟩ := bind_some h
 refine kx (mvO rfl) (Rn (hA h1229 (hA h1230 (hA h1231 (hA h1232 (hA h1233 (hA h1234 (hV (.lsl M1221.length r1236.length 0 r1236.length) rfl hZ))))))) fun e1249 h1251 h1252 h1253 h1254 h1255 h1256 h1257 => sN (sq (Rg (kx (ldOA h1256 o1243 rfl rfl (ble rfl) rfl) (kx (mvO h1257) (kx (mvO h1252) ?_))))))
 clear h1229 h1230 h1231 h1232 h1233 h1234
 rcases q2305 with ⟨r1259, r1260⟩ | ⟨r1755, r1756, r1757⟩
 ·refine Ev.nxcp (Ev.callT (v := .tup [.agg [.int .i64 r1259, .nils, .nils], .int .i64 r1260]) rfl (cns rfl (cns rfl (cns rfl rfl))) (ra1 (ra_agg (mp1 rfl (mp1 (ra1_row o1241 rfl (cI_fl _)) (mp1 (ra1_row o1242 rfl Tally.fl) mp0)))) (ra1 (ra1_row o1248 rfl Deal.fl) (ra1 rfl ra0))) (impl_StateOn_ok (Book.mk r1198 r1199 r1200) r1236 a3 _ hx1258) (th_gen (v' := .tup [.agg [.int .i64 r1259, .nils, .nils], .int .i64 r1260]) (l := []) (own_tup (oa1 (own2_agg (oa1 rfl (oa1 rfl (oa1 rfl oa0)))) (oa1 rfl oa0))) (by simp [thaw, thaw2, thaw1, thawL, thaw]) rfl rfl)) fun M1261 hM1262 => ?_
  have o1263 := push_old hM1262 o1240
  have o1264 := push_old hM1262 o1241
  have o1265 := push_old hM1262 o1242
  have o1266 := push_old hM1262 o1243
  have o1267 := push_old hM1262 o1248
  refine kx (mvO rfl) (kx (exT rfl rfl) (kx (exT rfl rfl) (ku (alO zero33) fun M1269 hM1270 => ?_)))
  have o1271 := push_old hM1270 o1263
  have ne1272 := ne_new o1263
  have o1273 := push_old hM1270 o1264
  have ne1274 := ne_new o1264
  have o1275 := push_old hM1270 o1265
  have ne1276 := ne_new o1265
  have o1277 := push_old hM1270 o1266
  have ne1278 := ne_new o1266
  have o1279 := push_old hM1270 o1267
  have ne1280 := ne_new o1267
  have o1281 : M1269[M1261.length]? = some (.live ⟨.box, 33, 3, [[.int .i64 0, .nils, .nils]]⟩) := push_new hM1270
  refine kw (stO rfl rfl o1281 rfl rfl ⟨rfl, ble rfl⟩ rfl rfl) fun M1282 hM1283 => ?_
  have o1284 := set_ne hM1283 ne1272 o1271
  have o1285 := set_ne hM1283 ne1274 o1273
  have o1286 := set_ne hM1283 ne1276 o1275
  have o1287 := set_ne hM1283 ne1278 o1277
  have o1288 := set_ne hM1283 ne1280 o1279
  have o1289 : M1282[M1261.length]? = some (.live ⟨.box, 33, 3, [[.int .i64 r1259, .nils, .nils]]⟩) := set_same hM1283 o1281
  obtain ⟨r1753, hr1754, h⟩ := bind_some h
  refine kx (mvO rfl) (Rn (hA h1251 (hA h1252 (hA h1253 (hA h1254 (hA h1255 (hA h1256 (hA h1257 (hV (.loc M1261.length 1 0 0) rfl (hN rfl hZ))))))))) fun e1290 h1292 h1293 h1294 h1295 h1296 h1297 h1298 h1299 h1300 => sN (sq (sq ?_)))
  clear h1251 h1252 h1253 h1254 h1255 h1256 h1257
  refine Ev.cut (Q1 := laws_FnExactStateOn_c9_Q a1 a2 a3 r1180 r1181 r1182 r1198 r1199 r1200 r1236 r1259 r1260 (([] : Mem).length) M1187.length (M1187.length + 1) M1203.length M1221.length M1261.length r1753) (by
      have h := hr1754
      obtain ⟨r1302, hx1301, h⟩ := bind_some h
      refine Rg (kx (ldOA h1299 o1289 rfl rfl (ble rfl) rfl) (kx (ldOA h1295 o1284 rfl rfl (ble rfl) rfl) (kc (cl (v := .bool r1302) rfl (cns rfl (cns rfl rfl)) rfl (laws_eqBook_ok (Book.mk r1259 ([] : List Int) ([] : List Tally)) (Book.mk r1180 r1181 r1182) _ hx1301) nm) (kx (uNot rfl) (kx (mvO rfl) ?_)))))
      rcases ite_some h with ⟨hb1303, h⟩ | ⟨hb1303, h⟩
      ·refine kx (guF rfl (congrArg Bool.not hb1303) (mvO h1300)) (kx (guF rfl (congrArg Bool.not hb1303) (mvO h1296)) (kx (guF rfl (congrArg Bool.not hb1303) (bNeq rfl rfl)) (kx (pkF rfl (congrArg Bool.not hb1303) rfl) (Rn (hA h1292 (hA h1293 (hA h1294 (hA h1295 (hA h1296 (hA h1297 (hA h1298 (hA h1299 (hA h1300 (hN rfl hZ)))))))))) fun e1304 h1306 h1307 h1308 h1309 h1310 h1311 h1312 h1313 h1314 h1315 => ?_))))
       clear h1292 h1293 h1294 h1295 h1296 h1297 h1298 h1299 h1300
       obtain rfl := si h
       exact kd (show laws_FnExactStateOn_c9_Q a1 a2 a3 r1180 r1181 r1182 r1198 r1199 r1200 r1236 r1259 r1260 (([] : Mem).length) M1187.length (M1187.length + 1) M1203.length M1221.length M1261.length _ _ from ⟨rfl, h1306, h1307, h1308, h1309, h1310, h1311, h1312, h1313, h1314, h1315, o1284, o1285, o1286, o1287, o1288, o1289⟩)
      refine kx (gsF rfl (congrArg Bool.not hb1303)) (kx (gsF rfl (congrArg Bool.not hb1303)) (kx (gsF rfl (congrArg Bool.not hb1303)) (kx (pkT rfl (congrArg Bool.not hb1303) rfl) (Rn (hA h1292 (hA h1293 (hA h1294 (hA h1295 (hA h1296 (hA h1297 (hA h1298 (hA h1299 (hA h1300 (hV (.bool true) rfl hZ)))))))))) fun e1316 h1318 h1319 h1320 h1321 h1322 h1323 h1324 h1325 h1326 h1327 => ?_))))
      clear h1292 h1293 h1294 h1295 h1296 h1297 h1298 h1299 h1300
      obtain rfl := si h
      exact kd (show laws_FnExactStateOn_c9_Q a1 a2 a3 r1180 r1181 r1182 r1198 r1199 r1200 r1236 r1259 r1260 (([] : Mem).length) M1187.length (M1187.length + 1) M1203.length M1221.length M1261.length _ _ from ⟨rfl, h1318, h1319, h1320, h1321, h1322, h1323, h1324, h1325, h1326, h1327, o1284, o1285, o1286, o1287, o1288, o1289⟩)) ?_
  revert h hr1754
  revert r1753
  intro y1330 hr1754 h
  intro x e1328 M1329 hq1752
  obtain ⟨rfl, h1331, h1332, h1333, h1334, h1335, h1336, h1337, h1338, h1339, h1340, o1341, o1342, o1343, o1344, o1345, o1346⟩ := hq1752
  refine sN ?_
  rcases ite_some h with ⟨hb1347, h⟩ | ⟨hb1347, h⟩
  ·refine cT h1340 hb1347 (sq (Rg (kx (mvO rfl) (Rn (hV (.bool false) rfl hZ) fun e1348 h1350 => sN (xx (sR ?_))))))
   clear h1331 h1332 h1333 h1334 h1335 h1336 h1337 h1338 h1339 h1340
   obtain rfl := si h
   exact eR (resT h1350 res0) rfl
  obtain ⟨⟨r1352, r1353, r1354⟩, hx1351, h⟩ := bind_some h
  obtain ⟨r1356, hx1355, h⟩ := bind_some h
  refine cF h1340 hb1347 (xx (sN (sq (sq (Rd (kf (ldOA h1336 o1344 rfl rfl (ble rfl) rfl) (kf (ldPA h1333 rfl rfl) (fc (cl (v := .agg [.int .i64 r1352, .sl (some 2) (r1353.map (cI .i64)), .sl (some 75) (r1354.map Tally.c)]) rfl (cns rfl rfl) rfl (laws_toBook_ok a1 _ hx1351) nm) (fc (cl (v := .bool r1356) rfl (cns rfl (cns rfl rfl)) (ra1 (ra_agg (mp1 rfl (mp1 (ra1_row o1342 rfl (cI_fl _)) (mp1 (ra1_row o1343 rfl Tally.fl) mp0)))) (ra1 rfl ra0)) (laws_eqBook_ok (Book.mk r1198 r1199 r1200) (Book.mk r1352 r1353 r1354) _ hx1355) (fun _ => rfl)) (kf (uNot rfl) (fZ (Rn (hV (.sl none (a2.map Deal.c)) h1331 (hV (.int .i64 a3) h1332 (hV (.pt none [.int .i64 a1.Day, .sl none (a1.Cash.map (cI .i64)), .sl none (a1.Tallies.map Tally.c)]) h1333 (hV (.loc ([] : Mem).length 1 0 0) h1334 (hV (.int .i64 0) h1335 (hV (.loc M1203.length 1 0 0) h1336 (hV (.lsl M1221.length r1236.length 0 r1236.length) h1337 (hV (.loc M1261.length 1 0 0) h1338 (hV (.int .i64 r1260) h1339 (hN rfl hZ)))))))))) fun e1357 h1359 h1360 h1361 h1362 h1363 h1364 h1365 h1366 h1367 h1368 => sN ?_))))))))))))
  clear h1331 h1332 h1333 h1334 h1335 h1336 h1337 h1338 h1339 h1340
  rcases ite_some h with ⟨hb1369, h⟩ | ⟨hb1369, h⟩
  ·obtain ⟨r1371, hx1370, h⟩ := bind_some h
   obtain ⟨r1373, hx1372, h⟩ := bind_some h
   refine cF h1368 (congrArg Bool.not hb1369) (xx (sN (sq (sq (Rg (kx (mvO h1365) (kx (mvO h1359) (kc (cl (v := .sl (some 65) (r1371.map Deal.c)) rfl (cns rfl rfl) rfl (laws_toDealS_ok a2 _ hx1370) nm) (kc (cl (v := .bool r1373) rfl (cns rfl (cns rfl rfl)) (ra1 (ra1_row o1345 rfl Deal.fl) (ra1 rfl ra0)) (laws_eqDealS_ok r1236 r1371 _ hx1372) (fun _ => rfl)) (kx (uNot rfl) (Rn (hA h1359 (hA h1360 (hA h1361 (hA h1362 (hA h1363 (hA h1364 (hA h1365 (hA h1366 (hA h1367 (hN rfl hZ)))))))))) fun e1374 h1376 h1377 h1378 h1379 h1380 h1381 h1382 h1383 h1384 h1385 => sN ?_)))))))))))
   clear h1359 h1360 h1361 h1362 h1363 h1364 h1365 h1366 h1367 h1368
   rcases ite_some h with ⟨hb1386, h⟩ | ⟨hb1386, h⟩
   ·obtain ⟨⟨r1400, r1401, r1402⟩, hx1399, h⟩ := bind_some h
    refine cF h1385 (congrArg Bool.not hb1386) (xx (sN (sq (Rg (kx (mvO rfl) (Rn (hA h1376 (hA h1377 (hA h1378 (hA h1379 (hA h1380 (hA h1381 (hA h1382 (hA h1383 (hA h1384 (hV (.int .i64 1) rfl hZ)))))))))) fun e1387 h1389 h1390 h1391 h1392 h1393 h1394 h1395 h1396 h1397 h1398 => sN (sq (Rg (kx (ldOA h1394 o1344 rfl rfl (ble rfl) rfl) (kx (mvO h1398) (Ev.nxw (Ev.callW rfl (cns rfl (cns rfl rfl)) (laws_markBook_ll_ok r1198 r1199 r1200 1 M1187.length (M1187.length + 1) ne1209 M1329 o1342 o1343 _ hx1399)) fun v1405 M1403 hq1404 => ?_)))))))))))
    clear h1376 h1377 h1378 h1379 h1380 h1381 h1382 h1383 h1384 h1385
    obtain ⟨hv1405, o1406, o1407, fr1408, hl1409, hl1410⟩ := hq1404
    have hv1405 : v1405 = .int .i64 r1400 := hv1405
    subst hv1405
    have o1411 : M1403[M1187.length]? = some (.live ⟨.grow, 2, 1, r1401.map (cI .i64)⟩) := o1406
    have o1412 : M1403[(M1187.length + 1)]? = some (.live ⟨.grow, 75, 5, r1402.map Tally.c⟩) := o1407
    have hl1409 : r1401.length = r1199.length := hl1409
    have hl1410 : r1402.length = r1200.length := hl1410
    have o1413 : M1403[([] : Mem).length]? = some (.live ⟨.box, 33, 3, [[.int .i64 r1180, .sl none (r1181.map (cI .i64)), .sl none (r1182.map Tally.c)]]⟩) := fr1408 _ _ (niC ne1206 (niC ne1208 niN)) o1341
    have o1414 : M1403[M1203.length]? = some (.live ⟨.box, 33, 3, [[.int .i64 r1198, .lsl M1187.length r1199.length 0 r1199.length, .lsl (M1187.length + 1) r1200.length 0 r1200.length]]⟩) := fr1408 _ _ (niC (Ne.symm ne1217) (niC (Ne.symm ne1219) niN)) o1344
    have o1415 : M1403[M1221.length]? = some (.live ⟨.grow, 65, 6, r1236.map Deal.c⟩) := fr1408 _ _ (niC (Ne.symm ne1245) (niC (Ne.symm ne1246) niN)) o1345
    have o1416 : M1403[M1261.length]? = some (.live ⟨.box, 33, 3, [[.int .i64 r1259, .nils, .nils]]⟩) := fr1408 _ _ (niC (Ne.symm ne1274) (niC (Ne.symm ne1276) niN)) o1346
    obtain ⟨⟨r1429, r1430⟩, hx1428, h⟩ := bind_some h
    refine kx (mvO rfl) (Rn (hA h1389 (hA h1390 (hA h1391 (hA h1392 (hA h1393 (hA h1395 (hA h1396 (hA h1397 (hN rfl hZ))))))))) fun e1417 h1419 h1420 h1421 h1422 h1423 h1424 h1425 h1426 h1427 => sN (sq (Rg (kx (mvO h1424) (kx (mvO h1427) (Ev.nxw (Ev.callW rfl (cns rfl (cns rfl rfl)) (laws_markDealS_l_ok r1236 r1400 M1221.length M1403 o1415 _ hx1428)) fun v1433 M1431 hq1432 => ?_))))))
    clear h1389 h1390 h1391 h1392 h1393 h1394 h1395 h1396 h1397
    obtain ⟨hv1433, o1434, fr1435, hl1436⟩ := hq1432
    have hv1433 : v1433 = .int .i64 r1429 := hv1433
    subst hv1433
    have o1437 : M1431[M1221.length]? = some (.live ⟨.grow, 65, 6, r1430.map Deal.c⟩) := o1434
    have hl1436 : r1430.length = r1236.length := hl1436
    have o1438 : M1431[([] : Mem).length]? = some (.live ⟨.box, 33, 3, [[.int .i64 r1180, .sl none (r1181.map (cI .i64)), .sl none (r1182.map Tally.c)]]⟩) := fr1435 _ _ (niC ne1244 niN) o1413
    have o1439 : M1431[M1261.length]? = some (.live ⟨.box, 33, 3, [[.int .i64 r1259, .nils, .nils]]⟩) := fr1435 _ _ (niC (Ne.symm ne1280) niN) o1416
    obtain ⟨r1744, hr1745, h⟩ := bind_some h
    refine kx (mvO rfl) (Rn (hA h1419 (hA h1420 (hA h1421 (hA h1422 (hA h1423 (hA h1425 (hA h1426 (hN rfl hZ)))))))) fun e1440 h1442 h1443 h1444 h1445 h1446 h1447 h1448 h1449 => sN (sq (sq ?_)))
    clear h1419 h1420 h1421 h1422 h1423 h1424 h1425 h1426
    refine Ev.cut (Q1 := laws_FnExactStateOn_c10_Q a1 a2 a3 r1180 r1181 r1182 r1259 (([] : Mem).length) M1261.length r1744) (by
        have h := hr1745
        refine Rg (kx (mvO h1449) (kx (bLss rfl rfl) (kx (mvO rfl) ?_)))
        rcases ite_some h with ⟨hb1450, h⟩ | ⟨hb1450, h⟩
        ·refine kx (gsF rfl hb1450) (kx (gsF rfl hb1450) (kc (Ev.gsF rfl hb1450) (kx (gsF rfl hb1450) (kx (pkT rfl hb1450 rfl) (kx (mvO rfl) (kx (gsF rfl rfl) (kx (gsF rfl rfl) (kx (gsF rfl rfl) (kx (pkT rfl rfl rfl) (Rn (hA h1442 (hA h1443 (hA h1444 (hA h1445 (hA h1446 (hA h1447 (hV (.bool true) rfl hZ))))))) fun e1451 h1453 h1454 h1455 h1456 h1457 h1458 h1459 => ?_))))))))))
         clear h1442 h1443 h1444 h1445 h1446 h1447 h1448 h1449
         obtain rfl := si h
         exact kd (show laws_FnExactStateOn_c10_Q a1 a2 a3 r1180 r1181 r1182 r1259 (([] : Mem).length) M1261.length _ _ from ⟨rfl, h1453, h1454, h1455, h1456, h1457, h1458, h1459, o1438, o1439⟩)
        obtain ⟨r1461, hx1460, h⟩ := bind_some h
        refine kx (guF rfl hb1450 (ldOA h1447 o1439 rfl rfl (ble rfl) rfl)) (kx (guF rfl hb1450 (ldOA h1445 o1438 rfl rfl (ble rfl) rfl)) (kc (Ev.guF rfl hb1450 (cl (v := .bool r1461) rfl (cns rfl (cns rfl rfl)) rfl (laws_eqBook_ok (Book.mk r1259 ([] : List Int) ([] : List Tally)) (Book.mk r1180 r1181 r1182) _ hx1460) nm)) (kx (guF rfl hb1450 (uNot rfl)) (kx (pkF rfl hb1450 rfl) (kx (mvO rfl) ?_)))))
        rcases ite_some h with ⟨hb1462, h⟩ | ⟨hb1462, h⟩
        ·refine kx (guF rfl (congrArg Bool.not hb1462) (mvO h1448)) (kx (guF rfl (congrArg Bool.not hb1462) (mvO h1446)) (kx (guF rfl (congrArg Bool.not hb1462) (bNeq rfl rfl)) (kx (pkF rfl (congrArg Bool.not hb1462) rfl) (Rn (hA h1442 (hA h1443 (hA h1444 (hA h1445 (hA h1446 (hA h1447 (hN rfl hZ))))))) fun e1463 h1465 h1466 h1467 h1468 h1469 h1470 h1471 => ?_))))
         clear h1442 h1443 h1444 h1445 h1446 h1447 h1448 h1449
         obtain rfl := si h
         exact kd (show laws_FnExactStateOn_c10_Q a1 a2 a3 r1180 r1181 r1182 r1259 (([] : Mem).length) M1261.length _ _ from ⟨rfl, h1465, h1466, h1467, h1468, h1469, h1470, h1471, o1438, o1439⟩)
        refine kx (gsF rfl (congrArg Bool.not hb1462)) (kx (gsF rfl (congrArg Bool.not hb1462)) (kx (gsF rfl (congrArg Bool.not hb1462)) (kx (pkT rfl (congrArg Bool.not hb1462) rfl) (Rn (hA h1442 (hA h1443 (hA h1444 (hA h1445 (hA h1446 (hA h1447 (hV (.bool true) rfl hZ))))))) fun e1472 h1474 h1475 h1476 h1477 h1478 h1479 h1480 => ?_))))
        clear h1442 h1443 h1444 h1445 h1446 h1447 h1448 h1449
        obtain rfl := si h
        exact kd (show laws_FnExactStateOn_c10_Q a1 a2 a3 r1180 r1181 r1182 r1259 (([] : Mem).length) M1261.length _ _ from ⟨rfl, h1474, h1475, h1476, h1477, h1478, h1479, h1480, o1438, o1439⟩)) ?_
    revert h hr1745
    revert r1744
    intro y1483 hr1745 h
    intro x e1481 M1482 hq1743
    obtain ⟨rfl, h1484, h1485, h1486, h1487, h1488, h1489, h1490, o1491, o1492⟩ := hq1743
    refine sN ?_
    rcases ite_some h with ⟨hb1493, h⟩ | ⟨hb1493, h⟩
    ·refine cT h1490 hb1493 (sq (Rg (kx (mvO rfl) (Rn (hV (.bool false) rfl hZ) fun e1494 h1496 => sN (xx (sR ?_))))))
     clear h1484 h1485 h1486 h1487 h1488 h1489 h1490
     obtain rfl := si h
     exact eR (resT h1496 res0) rfl
    obtain ⟨r1507, hx1506, h⟩ := bind_some h
    refine cF h1490 hb1493 (xx (sN (sq (Rg (kx (mvO rfl) (Rn (hV (.sl none (a2.map Deal.c)) h1484 (hV (.int .i64 a3) h1485 (hV (.pt none [.int .i64 a1.Day, .sl none (a1.Cash.map (cI .i64)), .sl none (a1.Tallies.map Tally.c)]) h1486 (hV (.loc ([] : Mem).length 1 0 0) h1487 (hV (.int .i64 0) h1488 (hV (.loc M1261.length 1 0 0) h1489 (hV (.int .i64 1) rfl hZ))))))) fun e1497 h1499 h1500 h1501 h1502 h1503 h1504 h1505 => sN (sq (Rg (kx (ldOA h1504 o1492 rfl rfl (ble rfl) rfl) (kx (mvO h1505) (Ev.nxw (Ev.callW rfl (cns rfl (cns rfl rfl)) (laws_markBook_nn_ok r1259 1 M1482 _ hx1506)) fun v1510 M1508 hq1509 => ?_)))))))))))
    clear h1484 h1485 h1486 h1487 h1488 h1489 h1490
    obtain ⟨hv1510, fr1511⟩ := hq1509
    have hv1510 : v1510 = .int .i64 r1507 := hv1510
    subst hv1510
    have o1512 : M1508[([] : Mem).length]? = some (.live ⟨.box, 33, 3, [[.int .i64 r1180, .sl none (r1181.map (cI .i64)), .sl none (r1182.map Tally.c)]]⟩) := fr1511 _ _ niN o1491
    have o1513 : M1508[M1261.length]? = some (.live ⟨.box, 33, 3, [[.int .i64 r1259, .nils, .nils]]⟩) := fr1511 _ _ niN o1492
    obtain ⟨r1534, hx1533, h⟩ := bind_some h
    refine kx (mvO rfl) (Rn (hA h1499 (hA h1500 (hA h1501 (hA h1502 (hA h1503 (hA h1504 (hN rfl hZ))))))) fun e1514 h1516 h1517 h1518 h1519 h1520 h1521 h1522 => sN (sq (Rg (kx (mvO rfl) (Rn (hA h1516 (hA h1517 (hA h1518 (hA h1519 (hA h1520 (hA h1521 (hA h1522 (hV (.int .i64 1) rfl hZ)))))))) fun e1523 h1525 h1526 h1527 h1528 h1529 h1530 h1531 h1532 => sN (sq (Rg (kx (ldOA h1530 o1513 rfl rfl (ble rfl) rfl) (kx (mvO h1532) (kc (cl (v := .int .i64 r1534) rfl (cns rfl (cns rfl rfl)) rfl (laws_heldBook_ok (Book.mk r1259 ([] : List Int) ([] : List Tally)) 1 _ hx1533) nm) (kx (mvO rfl) (Rn (hA h1525 (hA h1526 (hA h1527 (hA h1528 (hA h1529 (hA h1530 (hA h1531 (hN rfl hZ)))))))) fun e1535 h1537 h1538 h1539 h1540 h1541 h1542 h1543 h1544 => sN (sq (sq (Rg (kx (mvO h1544) (kx (bLss rfl rfl) (Rn (hA h1537 (hA h1538 (hA h1539 (hA h1540 (hA h1541 (hA h1542 (hA h1543 (hA h1544 (hN rfl hZ))))))))) fun e1545 h1547 h1548 h1549 h1550 h1551 h1552 h1553 h1554 h1555 => sN ?_))))))))))))))))))
    clear h1499 h1500 h1501 h1502 h1503 h1504 h1516 h1517 h1518 h1519 h1520 h1521 h1522 h1525 h1526 h1527 h1528 h1529 h1530 h1531 h1537 h1538 h1539 h1540 h1541 h1542 h1543 h1544
    rcases ite_some h with ⟨hb1556, h⟩ | ⟨hb1556, h⟩
    ·refine cT h1555 hb1556 (sq (Rg (kx (mvO rfl) (Rn (hV (.bool false) rfl hZ) fun e1557 h1559 => sN (xx (sR ?_))))))
     clear h1547 h1548 h1549 h1550 h1551 h1552 h1553 h1554 h1555
     obtain rfl := si h
     exact eR (resT h1559 res0) rfl
    refine cF h1555 hb1556 (xx (sN (sq (sq (Rg (kx (mvO h1554) (kx (mvO h1553) (kx (bNeq rfl rfl) (Rn (hA h1547 (hA h1548 (hA h1549 (hA h1550 (hA h1551 (hA h1552 (hA h1553 (hN rfl hZ)))))))) fun e1560 h1562 h1563 h1564 h1565 h1566 h1567 h1568 h1569 => sN ?_)))))))))
    clear h1547 h1548 h1549 h1550 h1551 h1552 h1553 h1554 h1555
    rcases ite_some h with ⟨hb1570, h⟩ | ⟨hb1570, h⟩
    ·refine cT h1569 hb1570 (sq (Rg (kx (mvO rfl) (Rn (hV (.bool false) rfl hZ) fun e1571 h1573 => sN (xx (sR ?_))))))
     clear h1562 h1563 h1564 h1565 h1566 h1567 h1568 h1569
     obtain rfl := si h
     exact eR (resT h1573 res0) rfl
    obtain ⟨⟨r1575, r1576, r1577⟩, hx1574, h⟩ := bind_some h
    obtain ⟨r1579, hx1578, h⟩ := bind_some h
    obtain ⟨q1742, hx1580, h⟩ := bind_some h
    refine cF h1569 hb1570 (xx (sN (sq (Rg (kx (ldPA h1564 rfl rfl) (kc (cl (v := .agg [.int .i64 r1575, .sl (some 2) (r1576.map (cI .i64)), .sl (some 75) (r1577.map Tally.c)]) rfl (cns rfl rfl) rfl (laws_toBook_ok a1 _ hx1574) nm) (kx (mvO h1562) (kc (cl (v := .sl (some 65) (r1579.map Deal.c)) rfl (cns rfl rfl) rfl (laws_toDealS_ok a2 _ hx1578) nm) (kx (mvO h1563) ?_)))))))))
    rcases q1742 with ⟨r1581, r1582⟩ | ⟨r1661, r1662, r1663⟩
    ·refine kc (cl (v := .tup [.agg [.int .i64 r1581, .nils, .nils], .int .i64 r1582]) rfl (cns rfl (cns rfl (cns rfl rfl))) rfl (impl_StateOn_ok (Book.mk r1575 r1576 r1577) r1579 a3 _ hx1580) nm) (kx (mvO rfl) (kx (exT rfl rfl) (kx (exT rfl rfl) (ku (alO zero33) fun M1584 hM1585 => ?_))))
     have o1586 := push_old hM1585 o1512
     have ne1587 := ne_new o1512
     have o1588 := push_old hM1585 o1513
     have ne1589 := ne_new o1513
     have o1590 : M1584[M1508.length]? = some (.live ⟨.box, 33, 3, [[.int .i64 0, .nils, .nils]]⟩) := push_new hM1585
     refine kw (stO rfl rfl o1590 rfl rfl ⟨rfl, ble rfl⟩ rfl rfl) fun M1591 hM1592 => ?_
     have o1593 := set_ne hM1592 ne1587 o1586
     have o1594 := set_ne hM1592 ne1589 o1588
     have o1595 : M1591[M1508.length]? = some (.live ⟨.box, 33, 3, [[.int .i64 r1581, .nils, .nils]]⟩) := set_same hM1592 o1590
     obtain ⟨r1659, hr1660, h⟩ := bind_some h
     refine kx (mvO rfl) (Rn (hA h1565 (hA h1566 (hA h1567 (hA h1568 (hV (.loc M1508.length 1 0 0) rfl (hN rfl hZ)))))) fun e1596 h1598 h1599 h1600 h1601 h1602 h1603 => sN (sq (sq ?_)))
     clear h1562 h1563 h1564 h1565 h1566 h1567 h1568 h1569
     refine Ev.cut (Q1 := laws_FnExactStateOn_c11_Q r1259 r1507 (([] : Mem).length) M1261.length M1508.length r1659) (by
         have h := hr1660
         obtain ⟨r1605, hx1604, h⟩ := bind_some h
         refine Rg (kx (ldOA h1602 o1595 rfl rfl (ble rfl) rfl) (kx (ldOA h1598 o1593 rfl rfl (ble rfl) rfl) (kc (cl (v := .bool r1605) rfl (cns rfl (cns rfl rfl)) rfl (laws_eqBook_ok (Book.mk r1581 ([] : List Int) ([] : List Tally)) (Book.mk r1180 r1181 r1182) _ hx1604) nm) (kx (uNot rfl) (kx (mvO rfl) ?_)))))
         rcases ite_some h with ⟨hb1606, h⟩ | ⟨hb1606, h⟩
         ·refine kx (guF rfl (congrArg Bool.not hb1606) (mvO h1603)) (kx (guF rfl (congrArg Bool.not hb1606) (mvO h1599)) (kx (guF rfl (congrArg Bool.not hb1606) (bNeq rfl rfl)) (kx (pkF rfl (congrArg Bool.not hb1606) rfl) (Rn (hA h1600 (hA h1601 (hN rfl hZ))) fun e1607 h1609 h1610 h1611 => ?_))))
          clear h1598 h1599 h1600 h1601 h1602 h1603
          obtain rfl := si h
          exact kd (show laws_FnExactStateOn_c11_Q r1259 r1507 (([] : Mem).length) M1261.length M1508.length _ _ from ⟨rfl, h1609, h1610, h1611, o1594⟩)
         refine kx (gsF rfl (congrArg Bool.not hb1606)) (kx (gsF rfl (congrArg Bool.not hb1606)) (kx (gsF rfl (congrArg Bool.not hb1606)) (kx (pkT rfl (congrArg Bool.not hb1606) rfl) (Rn (hA h1600 (hA h1601 (hV (.bool true) rfl hZ))) fun e1612 h1614 h1615 h1616 => ?_))))
         clear h1598 h1599 h1600 h1601 h1602 h1603
         obtain rfl := si h
         exact kd (show laws_FnExactStateOn_c11_Q r1259 r1507 (([] : Mem).length) M1261.length M1508.length _ _ from ⟨rfl, h1614, h1615, h1616, o1594⟩)) ?_
     revert h hr1660
     revert r1659
     intro y1619 hr1660 h
     intro x e1617 M1618 hq1658
     obtain ⟨rfl, h1620, h1621, h1622, o1623⟩ := hq1658
     refine sN ?_
     rcases ite_some h with ⟨hb1624, h⟩ | ⟨hb1624, h⟩
     ·refine cT h1622 hb1624 (sq (Rg (kx (mvO rfl) (Rn (hV (.bool false) rfl hZ) fun e1625 h1627 => sN (xx (sR ?_))))))
      clear h1620 h1621 h1622
      obtain rfl := si h
      exact eR (resT h1627 res0) rfl
     obtain ⟨r1634, hx1633, h⟩ := bind_some h
     refine cF h1622 hb1624 (xx (sN (sq (Rg (kx (mvO rfl) (Rn (hV (.loc M1261.length 1 0 0) h1620 (hV (.int .i64 r1507) h1621 (hV (.int .i64 1) rfl hZ))) fun e1628 h1630 h1631 h1632 => sN (sq (Rg (kx (ldOA h1630 o1623 rfl rfl (ble rfl) rfl) (kx (mvO h1632) (kc (cl (v := .int .i64 r1634) rfl (cns rfl (cns rfl rfl)) rfl (laws_heldBook_ok (Book.mk r1259 ([] : List Int) ([] : List Tally)) 1 _ hx1633) nm) (kx (mvO rfl) (Rn (hA h1631 (hN rfl hZ)) fun e1635 h1637 h1638 => sN (sq (sq (Rg (kx (mvO h1638) (kx (bLss rfl rfl) (Rn (hA h1637 (hA h1638 (hN rfl hZ))) fun e1639 h1641 h1642 h1643 => sN ?_)))))))))))))))))))
     clear h1620 h1621 h1622 h1630 h1631 h1637 h1638
     rcases ite_some h with ⟨hb1644, h⟩ | ⟨hb1644, h⟩
     ·refine cT h1643 hb1644 (sq (Rg (kx (mvO rfl) (Rn (hV (.bool false) rfl hZ) fun e1645 h1647 => sN (xx (sR ?_))))))
      clear h1641 h1642 h1643
      obtain rfl := si h
      exact eR (resT h1647 res0) rfl
     refine cF h1643 hb1644 (xx (sN (sq (sq (Rg (kx (mvO h1642) (kx (mvO h1641) (kx (bNeq rfl rfl) (Rn (hN rfl hZ) fun e1648 h1650 => sN ?_)))))))))
     clear h1641 h1642 h1643
     rcases ite_some h with ⟨hb1651, h⟩ | ⟨hb1651, h⟩
     ·refine cT h1650 hb1651 (sq (Rg (kx (mvO rfl) (Rn (hV (.bool false) rfl hZ) fun e1652 h1654 => sN (xx (sR ?_))))))
      clear h1650
      obtain rfl := si h
      exact eR (resT h1654 res0) rfl
     refine cF h1650 hb1651 (xx (sN (sq (Rg (kx (mvO rfl) (Rn (hV (.bool true) rfl hZ) fun e1655 h1657 => sN (xx ?_)))))))
     clear h1650
     obtain rfl := si h
     exact eR (resT h1657 res0) rfl
    refine kc (cl (v := .tup [.agg [.int .i64 r1661, .sl (some 2) (r1662.map (cI .i64)), .sl (some 75) (r1663.map Tally.c)], .int .i64 0]) rfl (cns rfl (cns rfl (cns rfl rfl))) rfl (impl_StateOn_ok (Book.mk r1575 r1576 r1577) r1579 a3 _ hx1580) nm) (kx (mvO rfl) (kx (exT rfl rfl) (kx (exT rfl rfl) (ku (alO zero33) fun M1665 hM1666 => ?_))))
    have o1667 := push_old hM1666 o1512
    have ne1668 := ne_new o1512
    have o1669 := push_old hM1666 o1513
    have ne1670 := ne_new o1513
    have o1671 : M1665[M1508.length]? = some (.live ⟨.box, 33, 3, [[.int .i64 0, .nils, .nils]]⟩) := push_new hM1666
    refine kw (stO rfl rfl o1671 rfl rfl ⟨rfl, ble rfl⟩ rfl rfl) fun M1672 hM1673 => ?_
    have o1674 := set_ne hM1673 ne1668 o1667
    have o1675 := set_ne hM1673 ne1670 o1669
    have o1676 : M1672[M1508.length]? = some (.live ⟨.box, 33, 3, [[.int .i64 r1661, .sl none (r1662.map (cI .i64)), .sl none (r1663.map Tally.c)]]⟩) := set_same hM1673 o1671
    obtain ⟨r1740, hr1741, h⟩ := bind_some h
    refine kx (mvO rfl) (Rn (hA h1565 (hA h1566 (hA h1567 (hA h1568 (hV (.loc M1508.length 1 0 0) rfl (hV (.int .i64 0) rfl hZ)))))) fun e1677 h1679 h1680 h1681 h1682 h1683 h1684 => sN (sq (sq ?_)))
    clear h1562 h1563 h1564 h1565 h1566 h1567 h1568 h1569
    refine Ev.cut (Q1 := laws_FnExactStateOn_c12_Q r1259 r1507 (([] : Mem).length) M1261.length M1508.length r1740) (by
        have h := hr1741
        obtain ⟨r1686, hx1685, h⟩ := bind_some h
        refine Rg (kx (ldOA h1683 o1676 rfl rfl (ble rfl) rfl) (kx (ldOA h1679 o1674 rfl rfl (ble rfl) rfl) (kc (cl (v := .bool r1686) rfl (cns rfl (cns rfl rfl)) rfl (laws_eqBook_ok (Book.mk r1661 r1662 r1663) (Book.mk r1180 r1181 r1182) _ hx1685) nm) (kx (uNot rfl) (kx (mvO rfl) ?_)))))
        rcases ite_some h with ⟨hb1687, h⟩ | ⟨hb1687, h⟩
        ·refine kx (guF rfl (congrArg Bool.not hb1687) (mvO h1684)) (kx (guF rfl (congrArg Bool.not hb1687) (mvO h1680)) (kx (guF rfl (congrArg Bool.not hb1687) (bNeq rfl rfl)) (kx (pkF rfl (congrArg Bool.not hb1687) rfl) (Rn (hA h1681 (hA h1682 (hV (.bool false) rfl hZ))) fun e1688 h1690 h1691 h1692 => ?_))))
         clear h1679 h1680 h1681 h1682 h1683 h1684
         obtain rfl := si h
         exact kd (show laws_FnExactStateOn_c12_Q r1259 r1507 (([] : Mem).length) M1261.length M1508.length _ _ from ⟨rfl, h1690, h1691, h1692, o1675⟩)
        refine kx (gsF rfl (congrArg Bool.not hb1687)) (kx (gsF rfl (congrArg Bool.not hb1687)) (kx (gsF rfl (congrArg Bool.not hb1687)) (kx (pkT rfl (congrArg Bool.not hb1687) rfl) (Rn (hA h1681 (hA h1682 (hV (.bool true) rfl hZ))) fun e1693 h1695 h1696 h1697 => ?_))))
        clear h1679 h1680 h1681 h1682 h1683 h1684
        obtain rfl := si h
        exact kd (show laws_FnExactStateOn_c12_Q r1259 r1507 (([] : Mem).length) M1261.length M1508.length _ _ from ⟨rfl, h1695, h1696, h1697, o1675⟩)) ?_
    revert h hr1741
    revert r1740
    intro y1700 hr1741 h
    intro x e1698 M1699 hq1739
    obtain ⟨rfl, h1701, h1702, h1703, o1704⟩ := hq1739
    refine sN ?_
    rcases ite_some h with ⟨hb1705, h⟩ | ⟨hb1705, h⟩
    ·refine cT h1703 hb1705 (sq (Rg (kx (mvO rfl) (Rn (hV (.bool false) rfl hZ) fun e1706 h1708 => sN (xx (sR ?_))))))
     clear h1701 h1702 h1703
     obtain rfl := si h
     exact eR (resT h1708 res0) rfl
    obtain ⟨r1715, hx1714, h⟩ := bind_some h
    refine cF h1703 hb1705 (xx (sN (sq (Rg (kx (mvO rfl) (Rn (hV (.loc M1261.length 1 0 0) h1701 (hV (.int .i64 r1507) h1702 (hV (.int .i64 1) rfl hZ))) fun e1709 h1711 h1712 h1713 => sN (sq (Rg (kx (ldOA h1711 o1704 rfl rfl (ble rfl) rfl) (kx (mvO h1713) (kc (cl (v := .int .i64 r1715) rfl (cns rfl (cns rfl rfl)) rfl (laws_heldBook_ok (Book.mk r1259 ([] : List Int) ([] : List Tally)) 1 _ hx1714) nm) (kx (mvO rfl) (Rn (hA h1712 (hN rfl hZ)) fun e1716 h1718 h1719 => sN (sq (sq (Rg (kx (mvO h1719) (kx (bLss rfl rfl) (Rn (hA h1718 (hA h1719 (hN rfl hZ))) fun e1720 h1722 h1723 h1724 => sN ?_)))))))))))))))))))
    clear h1701 h1702 h1703 h1711 h1712 h1718 h1719
    rcases ite_some h with ⟨hb1725, h⟩ | ⟨hb1725, h⟩
    ·refine cT h1724 hb1725 (sq (Rg (kx (mvO rfl) (Rn (hV (.bool false) rfl hZ) fun e1726 h1728 => sN (xx (sR ?_))))))
     clear h1722 h1723 h1724
     obtain rfl := si h
     exact eR (resT h1728 res0) rfl
    refine cF h1724 hb1725 (xx (sN (sq (sq (Rg (kx (mvO h1723) (kx (mvO h1722) (kx (bNeq rfl rfl) (Rn (hN rfl hZ) fun e1729 h1731 => sN ?_)))))))))
    clear h1722 h1723 h1724
    rcases ite_some h with ⟨hb1732, h⟩ | ⟨hb1732, h⟩
    ·refine cT h1731 hb1732 (sq (Rg (kx (mvO rfl) (Rn (hV (.bool false) rfl hZ) fun e1733 h1735 => sN (xx (sR ?_))))))
     clear h1731
     obtain rfl := si h
     exact eR (resT h1735 res0) rfl
    refine cF h1731 hb1732 (xx (sN (sq (Rg (kx (mvO rfl) (Rn (hV (.bool true) rfl hZ) fun e1736 h1738 => sN (xx ?_)))))))
    clear h1731
    obtain rfl := si h
    exact eR (resT h1738 res0) rfl
   refine cT h1385 (congrArg Bool.not hb1386) (sq (Rg (kx (mvO rfl) (Rn (hV (.bool false) rfl hZ) fun e1746 h1748 => sN (xx (sR ?_))))))
   clear h1376 h1377 h1378 h1379 h1380 h1381 h1382 h1383 h1384 h1385
   obtain rfl := si h
   exact eR (resT h1748 res0) rfl
  refine cT h1368 (congrArg Bool.not hb1369) (sq (Rg (kx (mvO rfl) (Rn (hV (.bool false) rfl hZ) fun e1749 h1751 => sN (xx (sR ?_))))))
  clear h1359 h1360 h1361 h1362 h1363 h1364 h1365 h1366 h1367 h1368
  obtain rfl := si h
  exact eR (resT h1751 res0) rfl
 refine Ev.nxcp (Ev.callT (v := .tup [.agg [.int .i64 r1755, .sl (some 2) (r1756.map (cI .i64)), .sl (some 75) (r1757.map Tally.c)], .int .i64 0]) rfl (cns rfl (cns rfl (cns rfl rfl))) (ra1 (ra_agg (mp1 rfl (mp1 (ra1_row o1241 rfl (cI_fl _)) (mp1 (ra1_row o1242 rfl Tally.fl) mp0)))) (ra1 (ra1_row o1248 rfl Deal.fl) (ra1 rfl ra0))) (impl_StateOn_ok (Book.mk r1198 r1199 r1200) r1236 a3 _ hx1258) (th_gen (v' := .tup [.agg [.int .i64 r1755, .lsl M1238.length r1756.length 0 r1756.length, .lsl (M1238.length + 1) r1757.length 0 r1757.length], .int .i64 0]) (l := [⟨.grow, 2, 1, r1756.map (cI .i64)⟩, ⟨.grow, 75, 5, r1757.map Tally.c⟩]) (own_tup (oa1 (own2_agg (oa1 rfl (oa1 (own1_row' (c := (cI .i64)) (fun _ => rfl)) (oa1 (own1_row' (c := Tally.c) Tally.flF) oa0)))) (oa1 rfl oa0))) (by simp [thaw, thaw2, thaw1, thawL, co2, co75]) rfl rfl)) fun M1760 hM1761 => ?_
 have o1762 := push_old hM1761 o1240
 have o1763 := push_old hM1761 o1241
 have o1764 := push_old hM1761 o1242
 have o1765 := push_old hM1761 o1243
 have o1766 := push_old hM1761 o1248
 have ne1767 : ([] : Mem).length ≠ M1238.length := by have := lt_of_get (M := M1238) o1240; omega
 have ne1768 : M1187.length ≠ M1238.length := by have := lt_of_get (M := M1238) o1241; omega
 have ne1769 : (M1187.length + 1) ≠ M1238.length := by have := lt_of_get (M := M1238) o1242; omega
 have ne1770 : M1203.length ≠ M1238.length := by have := lt_of_get (M := M1238) o1243; omega
 have ne1771 : M1221.length ≠ M1238.length := by have := lt_of_get (M := M1238) o1248; omega
 have o1772 : M1760[M1238.length]? = some (.live ⟨.grow, 2, 1, r1756.map (cI .i64)⟩) := push_at hM1761 0 rfl
 have ne1773 : ([] : Mem).length ≠ (M1238.length + 1) := by have := lt_of_get (M := M1238) o1240; omega
 have ne1774 : M1187.length ≠ (M1238.length + 1) := by have := lt_of_get (M := M1238) o1241; omega
 have ne1775 : (M1187.length + 1) ≠ (M1238.length + 1) := by have := lt_of_get (M := M1238) o1242; omega
 have ne1776 : M1203.length ≠ (M1238.length + 1) := by have := lt_of_get (M := M1238) o1243; omega
 have ne1777 : M1221.length ≠ (M1238.length + 1) := by have := lt_of_get (M := M1238) o1248; omega
 have ne1778 : M1238.length ≠ (M1238.length + 1) := by omega
 have o1779 : M1760[(M1238.length + 1)]? = some (.live ⟨.grow, 75, 5, r1757.map Tally.c⟩) := push_at hM1761 1 rfl
 refine kx (mvO rfl) (kx (exT rfl rfl) (kx (exT rfl rfl) (ku (alO zero33) fun M1781 hM1782 => ?_)))
 have o1783 := push_old hM1782 o1762
 have ne1784 := ne_new o1762
 have o1785 := push_old hM1782 o1763
 have ne1786 := ne_new o1763
 have o1787 := push_old hM1782 o1764
 have ne1788 := ne_new o1764
 have o1789 := push_old hM1782 o1765
 have ne1790 := ne_new o1765
 have o1791 := push_old hM1782 o1766
 have ne1792 := ne_new o1766
 have o1793 := push_old hM1782 o1772
 have ne1794 := ne_new o1772
 have o1795 := push_old hM1782 o1779
 have ne1796 := ne_new o1779
 have o1797 : M1781[M1760.length]? = some (.live ⟨.box, 33, 3, [[.int .i64 0, .nils, .nils]]⟩) := push_new hM1782
 refine kw (stO rfl rfl o1797 rfl rfl ⟨rfl, ble rfl⟩ (all1 rfl (all1 (okL o1793 (by simp)) (all1 (okL o1795 (by simp)) all0))) rfl) fun M1798 hM1799 => ?_
 have o1800 := set_ne hM1799 ne1784 o1783
 have o1801 := set_ne hM1799 ne1786 o1785
 have o1802 := set_ne hM1799 ne1788 o1787
 have o1803 := set_ne hM1799 ne1790 o1789
 have o1804 := set_ne hM1799 ne1792 o1791
 have o1805 := set_ne hM1799 ne1794 o1793
 have o1806 := set_ne hM1799 ne1796 o1795
 have o1807 : M1798[M1760.length]? = some (.live ⟨.box, 33, 3, [[.int .i64 r1755, .lsl M1238.length r1756.length 0 r1756.length, .lsl (M1238.length + 1) r1757.length 0 r1757.length]]⟩) := set_same hM1799 o1797
 obtain ⟨r2303, hr2304, h⟩ := bind_some h
 refine kx (mvO rfl) (Rn (hA h1251 (hA h1252 (hA h1253 (hA h1254 (hA h1255 (hA h1256 (hA h1257 (hV (.loc M1760.length 1 0 0) rfl (hV (.int .i64 0) rfl hZ))))))))) fun e1808 h1810 h1811 h1812 h1813 h1814 h1815 h1816 h1817 h1818 => sN (sq (sq ?_)))
 clear h1251 h1252 h1253 h1254 h1255 h1256 h1257
 refine Ev.cut (Q1 := laws_FnExactStateOn_c13_Q a1 a2 a3 r1180 r1181 r1182 r1198 r1199 r1200 r1236 r1755 r1756 r1757 (([] : Mem).length) M1187.length (M1187.length + 1) M1203.length M1221.length M1238.length (M1238.length + 1) M1760.length r2303) (by
     have h := hr2304
     obtain ⟨r1820, hx1819, h⟩ := bind_some h
     refine Rg (kx (ldOA h1817 o1807 rfl rfl (ble rfl) rfl) (kx (ldOA h1813 o1800 rfl rfl (ble rfl) rfl) (kc (cl (v := .bool r1820) rfl (cns rfl (cns rfl rfl)) (ra1 (ra_agg (mp1 rfl (mp1 (ra1_row o1805 rfl (cI_fl _)) (mp1 (ra1_row o1806 rfl Tally.fl) mp0)))) (ra1 rfl ra0)) (laws_eqBook_ok (Book.mk r1755 r1756 r1757) (Book.mk r1180 r1181 r1182) _ hx1819) (fun _ => rfl)) (kx (uNot rfl) (kx (mvO rfl) ?_)))))
     rcases ite_some h with ⟨hb1821, h⟩ | ⟨hb1821, h⟩
     ·refine kx (guF rfl (congrArg Bool.not hb1821) (mvO h1818)) (kx (guF rfl (congrArg Bool.not hb1821) (mvO h1814)) (kx (guF rfl (congrArg Bool.not hb1821) (bNeq rfl rfl)) (kx (pkF rfl (congrArg Bool.not hb1821) rfl) (Rn (hA h1810 (hA h1811 (hA h1812 (hA h1813 (hA h1814 (hA h1815 (hA h1816 (hA h1817 (hA h1818 (hV (.bool false) rfl hZ)))))))))) fun e1822 h1824 h1825 h1826 h1827 h1828 h1829 h1830 h1831 h1832 h1833 => ?_))))
      clear h1810 h1811 h1812 h1813 h1814 h1815 h1816 h1817 h1818
      obtain rfl := si h
      exact kd (show laws_FnExactStateOn_c13_Q a1 a2 a3 r1180 r1181 r1182 r1198 r1199 r1200 r1236 r1755 r1756 r1757 (([] : Mem).length) M1187.length (M1187.length + 1) M1203.length M1221.length M1238.length (M1238.length + 1) M1760.length _ _ from ⟨rfl, h1824, h1825, h1826, h1827, h1828, h1829, h1830, h1831, h1832, h1833, o1800, o1801, o1802, o1803, o1804, o1805, o1806, o1807⟩)
     refine kx (gsF rfl (congrArg Bool.not hb1821)) (kx (gsF rfl (congrArg Bool.not hb1821)) (kx (gsF rfl (congrArg Bool.not hb1821)) (kx (pkT rfl (congrArg Bool.not hb1821) rfl) (Rn (hA h1810 (hA h1811 (hA h1812 (hA h1813 (hA h1814 (hA h1815 (hA h1816 (hA h1817 (hA h1818 (hV (.bool true) rfl hZ)))))))))) fun e1834 h1836 h1837 h1838 h1839 h1840 h1841 h1842 h1843 h1844 h1845 => ?_))))
     clear h1810 h1811 h1812 h1813 h1814 h1815 h1816 h1817 h1818
     obtain rfl := si h
     exact kd (show laws_FnExactStateOn_c13_Q a1 a2 a3 r1180 r1181 r1182 r1198 r1199 r1200 r1236 r1755 r1756 r1757 (([] : Mem).length) M1187.length (M1187.length + 1) M1203.length M1221.length M1238.length (M1238.length + 1) M1760.length _ _ from ⟨rfl, h1836, h1837, h1838, h1839, h1840, h1841, h1842, h1843, h1844, h1845, o1800, o1801, o1802, o1803, o1804, o1805, o1806, o1807⟩)) ?_
 revert h hr2304
 revert r2303
 intro y1848 hr2304 h
 intro x e1846 M1847 hq2302
 obtain ⟨rfl, h1849, h1850, h1851, h1852, h1853, h1854, h1855, h1856, h1857, h1858, o1859, o1860, o1861, o1862, o1863, o1864, o1865, o1866⟩ := hq2302
 refine sN ?_
 rcases ite_some h with ⟨hb1867, h⟩ | ⟨hb1867, h⟩
 ·refine cT h1858 hb1867 (sq (Rg (kx (mvO rfl) (Rn (hV (.bool false) rfl hZ) fun e1868 h1870 => sN (xx (sR ?_))))))
  clear h1849 h1850 h1851 h1852 h1853 h1854 h1855 h1856 h1857 h1858
  obtain rfl := si h
  exact eR (resT h1870 res0) rfl
 obtain ⟨⟨r1872, r1873, r1874⟩, hx1871, h⟩ := bind_some h
 obtain ⟨r1876, hx1875, h⟩ := bind_some h
 refine cF h1858 hb1867 (xx (sN (sq (sq (Rd (kf (ldOA h1854 o1862 rfl rfl (ble rfl) rfl) (kf (ldPA h1851 rfl rfl) (fc (cl (v := .agg [.int .i64 r1872, .sl (some 2) (r1873.map (cI .i64)), .sl (some 75) (r1874.map Tally.c)]) rfl (cns rfl rfl) rfl (laws_toBook_ok a1 _ hx1871) nm) (fc (cl (v := .bool r1876) rfl (cns rfl (cns rfl rfl)) (ra1 (ra_agg (mp1 rfl (mp1 (ra1_row o1860 rfl (cI_fl _)) (mp1 (ra1_row o1861 rfl Tally.fl) mp0)))) (ra1 rfl ra0)) (laws_eqBook_ok (Book.mk r1198 r1199 r1200) (Book.mk r1872 r1873 r1874) _ hx1875) (fun _ => rfl)) (kf (uNot rfl) (fZ (Rn (hV (.sl none (a2.map Deal.c)) h1849 (hV (.int .i64 a3) h1850 (hV (.pt none [.int .i64 a1.Day, .sl none (a1.Cash.map (cI .i64)), .sl none (a1.Tallies.map Tally.c)]) h1851 (hV (.loc ([] : Mem).length 1 0 0) h1852 (hV (.int .i64 0) h1853 (hV (.loc M1203.length 1 0 0) h1854 (hV (.lsl M1221.length r1236.length 0 r1236.length) h1855 (hV (.loc M1760.length 1 0 0) h1856 (hV (.int .i64 0) h1857 (hN rfl hZ)))))))))) fun e1877 h1879 h1880 h1881 h1882 h1883 h1884 h1885 h1886 h1887 h1888 => sN ?_))))))))))))
 clear h1849 h1850 h1851 h1852 h1853 h1854 h1855 h1856 h1857 h1858
 rcases ite_some h with ⟨hb1889, h⟩ | ⟨hb1889, h⟩
 ·obtain ⟨r1891, hx1890, h⟩ := bind_some h
  obtain ⟨r1893, hx1892, h⟩ := bind_some h
  refine cF h1888 (congrArg Bool.not hb1889) (xx (sN (sq (sq (Rg (kx (mvO h1885) (kx (mvO h1879) (kc (cl (v := .sl (some 65) (r1891.map Deal.c)) rfl (cns rfl rfl) rfl (laws_toDealS_ok a2 _ hx1890) nm) (kc (cl (v := .bool r1893) rfl (cns rfl (cns rfl rfl)) (ra1 (ra1_row o1863 rfl Deal.fl) (ra1 rfl ra0)) (laws_eqDealS_ok r1236 r1891 _ hx1892) (fun _ => rfl)) (kx (uNot rfl) (Rn (hA h1879 (hA h1880 (hA h1881 (hA h1882 (hA h1883 (hA h1884 (hA h1885 (hA h1886 (hA h1887 (hN rfl hZ)))))))))) fun e1894 h1896 h1897 h1898 h1899 h1900 h1901 h1902 h1903 h1904 h1905 => sN ?_)))))))))))
  clear h1879 h1880 h1881 h1882 h1883 h1884 h1885 h1886 h1887 h1888
  rcases ite_some h with ⟨hb1906, h⟩ | ⟨hb1906, h⟩
  ·obtain ⟨⟨r1920, r1921, r1922⟩, hx1919, h⟩ := bind_some h
   refine cF h1905 (congrArg Bool.not hb1906) (xx (sN (sq (Rg (kx (mvO rfl) (Rn (hA h1896 (hA h1897 (hA h1898 (hA h1899 (hA h1900 (hA h1901 (hA h1902 (hA h1903 (hA h1904 (hV (.int .i64 1) rfl hZ)))))))))) fun e1907 h1909 h1910 h1911 h1912 h1913 h1914 h1915 h1916 h1917 h1918 => sN (sq (Rg (kx (ldOA h1914 o1862 rfl rfl (ble rfl) rfl) (kx (mvO h1918) (Ev.nxw (Ev.callW rfl (cns rfl (cns rfl rfl)) (laws_markBook_ll_ok r1198 r1199 r1200 1 M1187.length (M1187.length + 1) ne1209 M1847 o1860 o1861 _ hx1919)) fun v1925 M1923 hq1924 => ?_)))))))))))
   clear h1896 h1897 h1898 h1899 h1900 h1901 h1902 h1903 h1904 h1905
   obtain ⟨hv1925, o1926, o1927, fr1928, hl1929, hl1930⟩ := hq1924
   have hv1925 : v1925 = .int .i64 r1920 := hv1925
   subst hv1925
   have o1931 : M1923[M1187.length]? = some (.live ⟨.grow, 2, 1, r1921.map (cI .i64)⟩) := o1926
   have o1932 : M1923[(M1187.length + 1)]? = some (.live ⟨.grow, 75, 5, r1922.map Tally.c⟩) := o1927
   have hl1929 : r1921.length = r1199.length := hl1929
   have hl1930 : r1922.length = r1200.length := hl1930
   have o1933 : M1923[([] : Mem).length]? = some (.live ⟨.box, 33, 3, [[.int .i64 r1180, .sl none (r1181.map (cI .i64)), .sl none (r1182.map Tally.c)]]⟩) := fr1928 _ _ (niC ne1206 (niC ne1208 niN)) o1859
   have o1934 : M1923[M1203.length]? = some (.live ⟨.box, 33, 3, [[.int .i64 r1198, .lsl M1187.length r1199.length 0 r1199.length, .lsl (M1187.length + 1) r1200.length 0 r1200.length]]⟩) := fr1928 _ _ (niC (Ne.symm ne1217) (niC (Ne.symm ne1219) niN)) o1862
   have o1935 : M1923[M1221.length]? = some (.live ⟨.grow, 65, 6, r1236.map Deal.c⟩) := fr1928 _ _ (niC (Ne.symm ne1245) (niC (Ne.symm ne1246) niN)) o1863
   have o1936 : M1923[M1238.length]? = some (.live ⟨.grow, 2, 1, r1756.map (cI .i64)⟩) := fr1928 _ _ (niC (Ne.symm ne1768) (niC (Ne.symm ne1769) niN)) o1864
   have o1937 : M1923[(M1238.length + 1)]? = some (.live ⟨.grow, 75, 5, r1757.map Tally.c⟩) := fr1928 _ _ (niC (Ne.symm ne1774) (niC (Ne.symm ne1775) niN)) o1865
   have o1938 : M1923[M1760.length]? = some (.live ⟨.box, 33, 3, [[.int .i64 r1755, .lsl M1238.length r1756.length 0 r1756.length, .lsl (M1238.length + 1) r1757.length 0 r1757.length]]⟩) := fr1928 _ _ (niC (Ne.symm ne1786) (niC (Ne.symm ne1788) niN)) o1866
   obtain ⟨⟨r1951, r1952⟩, hx1950, h⟩ := bind_some h
   refine kx (mvO rfl) (Rn (hA h1909 (hA h1910 (hA h1911 (hA h1912 (hA h1913 (hA h1915 (hA h1916 (hA h1917 (hN rfl hZ))))))))) fun e1939 h1941 h1942 h1943 h1944 h1945 h1946 h1947 h1948 h1949 => sN (sq (Rg (kx (mvO h1946) (kx (mvO h1949) (Ev.nxw (Ev.callW rfl (cns rfl (cns rfl rfl)) (laws_markDealS_l_ok r1236 r1920 M1221.length M1923 o1935 _ hx1950)) fun v1955 M1953 hq1954 => ?_))))))
   clear h1909 h1910 h1911 h1912 h1913 h1914 h1915 h1916 h1917
   obtain ⟨hv1955, o1956, fr1957, hl1958⟩ := hq1954
   have hv1955 : v1955 = .int .i64 r1951 := hv1955
   subst hv1955
   have o1959 : M1953[M1221.length]? = some (.live ⟨.grow, 65, 6, r1952.map Deal.c⟩) := o1956
   have hl1958 : r1952.length = r1236.length := hl1958
   have o1960 : M1953[([] : Mem).length]? = some (.live ⟨.box, 33, 3, [[.int .i64 r1180, .sl none (r1181.map (cI .i64)), .sl none (r1182.map Tally.c)]]⟩) := fr1957 _ _ (niC ne1244 niN) o1933
   have o1961 : M1953[M1238.length]? = some (.live ⟨.grow, 2, 1, r1756.map (cI .i64)⟩) := fr1957 _ _ (niC (Ne.symm ne1771) niN) o1936
   have o1962 : M1953[(M1238.length + 1)]? = some (.live ⟨.grow, 75, 5, r1757.map Tally.c⟩) := fr1957 _ _ (niC (Ne.symm ne1777) niN) o1937
   have o1963 : M1953[M1760.length]? = some (.live ⟨.box, 33, 3, [[.int .i64 r1755, .lsl M1238.length r1756.length 0 r1756.length, .lsl (M1238.length + 1) r1757.length 0 r1757.length]]⟩) := fr1957 _ _ (niC (Ne.symm ne1792) niN) o1938
   obtain ⟨r2294, hr2295, h⟩ := bind_some h
   refine kx (mvO rfl) (Rn (hA h1941 (hA h1942 (hA h1943 (hA h1944 (hA h1945 (hA h1947 (hA h1948 (hN rfl hZ)))))))) fun e1964 h1966 h1967 h1968 h1969 h1970 h1971 h1972 h1973 => sN (sq (sq ?_)))
   clear h1941 h1942 h1943 h1944 h1945 h1946 h1947 h1948
   refine Ev.cut (Q1 := laws_FnExactStateOn_c14_Q a1 a2 a3 r1180 r1181 r1182 r1755 r1756 r1757 (([] : Mem).length) M1238.length (M1238.length + 1) M1760.length r2294) (by
       have h := hr2295
       refine Rg (kx (mvO h1973) (kx (bLss rfl rfl) (kx (mvO rfl) ?_)))
       rcases ite_some h with ⟨hb1974, h⟩ | ⟨hb1974, h⟩
       ·refine kx (gsF rfl hb1974) (kx (gsF rfl hb1974) (kc (Ev.gsF rfl hb1974) (kx (gsF rfl hb1974) (kx (pkT rfl hb1974 rfl) (kx (mvO rfl) (kx (gsF rfl rfl) (kx (gsF rfl rfl) (kx (gsF rfl rfl) (kx (pkT rfl rfl rfl) (Rn (hA h1966 (hA h1967 (hA h1968 (hA h1969 (hA h1970 (hA h1971 (hV (.bool true) rfl hZ))))))) fun e1975 h1977 h1978 h1979 h1980 h1981 h1982 h1983 => ?_))))))))))
        clear h1966 h1967 h1968 h1969 h1970 h1971 h1972 h1973
        obtain rfl := si h
        exact kd (show laws_FnExactStateOn_c14_Q a1 a2 a3 r1180 r1181 r1182 r1755 r1756 r1757 (([] : Mem).length) M1238.length (M1238.length + 1) M1760.length _ _ from ⟨rfl, h1977, h1978, h1979, h1980, h1981, h1982, h1983, o1960, o1961, o1962, o1963⟩)
       obtain ⟨r1985, hx1984, h⟩ := bind_some h
       refine kx (guF rfl hb1974 (ldOA h1971 o1963 rfl rfl (ble rfl) rfl)) (kx (guF rfl hb1974 (ldOA h1969 o1960 rfl rfl (ble rfl) rfl)) (kc (Ev.guF rfl hb1974 (cl (v := .bool r1985) rfl (cns rfl (cns rfl rfl)) (ra1 (ra_agg (mp1 rfl (mp1 (ra1_row o1961 rfl (cI_fl _)) (mp1 (ra1_row o1962 rfl Tally.fl) mp0)))) (ra1 rfl ra0)) (laws_eqBook_ok (Book.mk r1755 r1756 r1757) (Book.mk r1180 r1181 r1182) _ hx1984) (fun _ => rfl))) (kx (guF rfl hb1974 (uNot rfl)) (kx (pkF rfl hb1974 rfl) (kx (mvO rfl) ?_)))))
       rcases ite_some h with ⟨hb1986, h⟩ | ⟨hb1986, h⟩
       ·refine kx (guF rfl (congrArg Bool.not hb1986) (mvO h1972)) (kx (guF rfl (congrArg Bool.not hb1986) (mvO h1970)) (kx (guF rfl (congrArg Bool.not hb1986) (bNeq rfl rfl)) (kx (pkF rfl (congrArg Bool.not hb1986) rfl) (Rn (hA h1966 (hA h1967 (hA h1968 (hA h1969 (hA h1970 (hA h1971 (hV (.bool false) rfl hZ))))))) fun e1987 h1989 h1990 h1991 h1992 h1993 h1994 h1995 => ?_))))
        clear h1966 h1967 h1968 h1969 h1970 h1971 h1972 h1973
        obtain rfl := si h
        exact kd (show laws_FnExactStateOn_c14_Q a1 a2 a3 r1180 r1181 r1182 r1755 r1756 r1757 (([] : Mem).length) M1238.length (M1238.length + 1) M1760.length _ _ from ⟨rfl, h1989, h1990, h1991, h1992, h1993, h1994, h1995, o1960, o1961, o1962, o1963⟩)
       refine kx (gsF rfl (congrArg Bool.not hb1986)) (kx (gsF rfl (congrArg Bool.not hb1986)) (kx (gsF rfl (congrArg Bool.not hb1986)) (kx (pkT rfl (congrArg Bool.not hb1986) rfl) (Rn (hA h1966 (hA h1967 (hA h1968 (hA h1969 (hA h1970 (hA h1971 (hV (.bool true) rfl hZ))))))) fun e1996 h1998 h1999 h2000 h2001 h2002 h2003 h2004 => ?_))))
       clear h1966 h1967 h1968 h1969 h1970 h1971 h1972 h1973
       obtain rfl := si h
       exact kd (show laws_FnExactStateOn_c14_Q a1 a2 a3 r1180 r1181 r1182 r1755 r1756 r1757 (([] : Mem).length) M1238.length (M1238.length + 1) M1760.length _ _ from ⟨rfl, h1998, h1999, h2000, h2001, h2002, h2003, h2004, o1960, o1961, o1962, o1963⟩)) ?_
   revert h hr2295
   revert r2294
   intro y2007 hr2295 h
   intro x e2005 M2006 hq2293
   obtain ⟨rfl, h2008, h2009, h2010, h2011, h2012, h2013, h2014, o2015, o2016, o2017, o2018⟩ := hq2293
   refine sN ?_
   rcases ite_some h with ⟨hb2019, h⟩ | ⟨hb2019, h⟩
   ·refine cT h2014 hb2019 (sq (Rg (kx (mvO rfl) (Rn (hV (.bool false) rfl hZ) fun e2020 h2022 => sN (xx (sR ?_))))))
    clear h2008 h2009 h2010 h2011 h2012 h2013 h2014
    obtain rfl := si h
    exact eR (resT h2022 res0) rfl
   obtain ⟨⟨r2033, r2034, r2035⟩, hx2032, h⟩ := bind_some h
   refine cF h2014 hb2019 (xx (sN (sq (Rg (kx (mvO rfl) (Rn (hV (.sl none (a2.map Deal.c)) h2008 (hV (.int .i64 a3) h2009 (hV (.pt none [.int .i64 a1.Day, .sl none (a1.Cash.map (cI .i64)), .sl none (a1.Tallies.map Tally.c)]) h2010 (hV (.loc ([] : Mem).length 1 0 0) h2011 (hV (.int .i64 0) h2012 (hV (.loc M1760.length 1 0 0) h2013 (hV (.int .i64 1) rfl hZ))))))) fun e2023 h2025 h2026 h2027 h2028 h2029 h2030 h2031 => sN (sq (Rg (kx (ldOA h2030 o2018 rfl rfl (ble rfl) rfl) (kx (mvO h2031) (Ev.nxw (Ev.callW rfl (cns rfl (cns rfl rfl)) (laws_markBook_ll_ok r1755 r1756 r1757 1 M1238.length (M1238.length + 1) ne1778 M2006 o2016 o2017 _ hx2032)) fun v2038 M2036 hq2037 => ?_)))))))))))
   clear h2008 h2009 h2010 h2011 h2012 h2013 h2014
   obtain ⟨hv2038, o2039, o2040, fr2041, hl2042, hl2043⟩ := hq2037
   have hv2038 : v2038 = .int .i64 r2033 := hv2038
   subst hv2038
   have o2044 : M2036[M1238.length]? = some (.live ⟨.grow, 2, 1, r2034.map (cI .i64)⟩) := o2039
   have o2045 : M2036[(M1238.length + 1)]? = some (.live ⟨.grow, 75, 5, r2035.map Tally.c⟩) := o2040
   have hl2042 : r2034.length = r1756.length := hl2042
   have hl2043 : r2035.length = r1757.length := hl2043
   have o2046 : M2036[([] : Mem).length]? = some (.live ⟨.box, 33, 3, [[.int .i64 r1180, .sl none (r1181.map (cI .i64)), .sl none (r1182.map Tally.c)]]⟩) := fr2041 _ _ (niC ne1767 (niC ne1773 niN)) o2015
   have o2047 : M2036[M1760.length]? = some (.live ⟨.box, 33, 3, [[.int .i64 r1755, .lsl M1238.length r1756.length 0 r1756.length, .lsl (M1238.length + 1) r1757.length 0 r1757.length]]⟩) := fr2041 _ _ (niC (Ne.symm ne1794) (niC (Ne.symm ne1796) niN)) o2018
   obtain ⟨r2068, hx2067, h⟩ := bind_some h
   refine kx (mvO rfl) (Rn (hA h2025 (hA h2026 (hA h2027 (hA h2028 (hA h2029 (hA h2030 (hN rfl hZ))))))) fun e2048 h2050 h2051 h2052 h2053 h2054 h2055 h2056 => sN (sq (Rg (kx (mvO rfl) (Rn (hA h2050 (hA h2051 (hA h2052 (hA h2053 (hA h2054 (hA h2055 (hA h2056 (hV (.int .i64 1) rfl hZ)))))))) fun e2057 h2059 h2060 h2061 h2062 h2063 h2064 h2065 h2066 => sN (sq (Rg (kx (ldOA h2064 o2047 rfl rfl (ble rfl) rfl) (kx (mvO h2066) (kc (cl (v := .int .i64 r2068) rfl (cns rfl (cns rfl rfl)) (ra1 (ra_agg (mp1 rfl (mp1 (ra1_row o2044 (by simp [hl1929, hl1930, hl1958, hl2042, hl2043]) (cI_fl _)) (mp1 (ra1_row o2045 (by simp [hl1929, hl1930, hl1958, hl2042, hl2043]) Tally.fl) mp0)))) (ra1 rfl ra0)) (laws_heldBook_ok (Book.mk r1755 r2034 r2035) 1 _ hx2067) (fun _ => rfl)) (kx (mvO rfl) (Rn (hA h2059 (hA h2060 (hA h2061 (hA h2062 (hA h2063 (hA h2064 (hA h2065 (hN rfl hZ)))))))) fun e2069 h2071 h2072 h2073 h2074 h2075 h2076 h2077 h2078 => sN (sq (sq (Rg (kx (mvO h2078) (kx (bLss rfl rfl) (Rn (hA h2071 (hA h2072 (hA h2073 (hA h2074 (hA h2075 (hA h2076 (hA h2077 (hA h2078 (hN rfl hZ))))))))) fun e2079 h2081 h2082 h2083 h2084 h2085 h2086 h2087 h2088 h2089 => sN ?_))))))))))))))))))
   clear h2025 h2026 h2027 h2028 h2029 h2030 h2050 h2051 h2052 h2053 h2054 h2055 h2056 h2059 h2060 h2061 h2062 h2063 h2064 h2065 h2071 h2072 h2073 h2074 h2075 h2076 h2077 h2078
   rcases ite_some h with ⟨hb2090, h⟩ | ⟨hb2090, h⟩
   ·refine cT h2089 hb2090 (sq (Rg (kx (mvO rfl) (Rn (hV (.bool false) rfl hZ) fun e2091 h2093 => sN (xx (sR ?_))))))
    clear h2081 h2082 h2083 h2084 h2085 h2086 h2087 h2088 h2089
    obtain rfl := si h
    exact eR (resT h2093 res0) rfl
   refine cF h2089 hb2090 (xx (sN (sq (sq (Rg (kx (mvO h2088) (kx (mvO h2087) (kx (bNeq rfl rfl) (Rn (hA h2081 (hA h2082 (hA h2083 (hA h2084 (hA h2085 (hA h2086 (hA h2087 (hN rfl hZ)))))))) fun e2094 h2096 h2097 h2098 h2099 h2100 h2101 h2102 h2103 => sN ?_)))))))))
   clear h2081 h2082 h2083 h2084 h2085 h2086 h2087 h2088 h2089
   rcases ite_some h with ⟨hb2104, h⟩ | ⟨hb2104, h⟩
   ·refine cT h2103 hb2104 (sq (Rg (kx (mvO rfl) (Rn (hV (.bool false) rfl hZ) fun e2105 h2107 => sN (xx (sR ?_))))))
    clear h2096 h2097 h2098 h2099 h2100 h2101 h2102 h2103
    obtain rfl := si h
    exact eR (resT h2107 res0) rfl
   obtain ⟨⟨r2109, r2110, r2111⟩, hx2108, h⟩ := bind_some h
   obtain ⟨r2113, hx2112, h⟩ := bind_some h
   obtain ⟨q2292, hx2114, h⟩ := bind_some h
   refine cF h2103 hb2104 (xx (sN (sq (Rg (kx (ldPA h2098 rfl rfl) (kc (cl (v := .agg [.int .i64 r2109, .sl (some 2) (r2110.map (cI .i64)), .sl (some 75) (r2111.map Tally.c)]) rfl (cns rfl rfl) rfl (laws_toBook_ok a1 _ hx2108) nm) (kx (mvO h2096) (kc (cl (v := .sl (some 65) (r2113.map Deal.c)) rfl (cns rfl rfl) rfl (laws_toDealS_ok a2 _ hx2112) nm) (kx (mvO h2097) ?_)))))))))
   rcases q2292 with ⟨r2115, r2116⟩ | ⟨r2203, r2204, r2205⟩
   ·refine kc (cl (v := .tup [.agg [.int .i64 r2115, .nils, .nils], .int .i64 r2116]) rfl (cns rfl (cns rfl (cns rfl rfl))) rfl (impl_StateOn_ok (Book.mk r2109 r2110 r2111) r2113 a3 _ hx2114) nm) (kx (mvO rfl) (kx (exT rfl rfl) (kx (exT rfl rfl) (ku (alO zero33) fun M2118 hM2119 => ?_))))
    have o2120 := push_old hM2119 o2046
    have ne2121 := ne_new o2046
    have o2122 := push_old hM2119 o2044
    have ne2123 := ne_new o2044
    have o2124 := push_old hM2119 o2045
    have ne2125 := ne_new o2045
    have o2126 := push_old hM2119 o2047
    have ne2127 := ne_new o2047
    have o2128 : M2118[M2036.length]? = some (.live ⟨.box, 33, 3, [[.int .i64 0, .nils, .nils]]⟩) := push_new hM2119
    refine kw (stO rfl rfl o2128 rfl rfl ⟨rfl, ble rfl⟩ rfl rfl) fun M2129 hM2130 => ?_
    have o2131 := set_ne hM2130 ne2121 o2120
    have o2132 := set_ne hM2130 ne2123 o2122
    have o2133 := set_ne hM2130 ne2125 o2124
    have o2134 := set_ne hM2130 ne2127 o2126
    have o2135 : M2129[M2036.length]? = some (.live ⟨.box, 33, 3, [[.int .i64 r2115, .nils, .nils]]⟩) := set_same hM2130 o2128
    obtain ⟨r2201, hr2202, h⟩ := bind_some h
    refine kx (mvO rfl) (Rn (hA h2099 (hA h2100 (hA h2101 (hA h2102 (hV (.loc M2036.length 1 0 0) rfl (hN rfl hZ)))))) fun e2136 h2138 h2139 h2140 h2141 h2142 h2143 => sN (sq (sq ?_)))
    clear h2096 h2097 h2098 h2099 h2100 h2101 h2102 h2103
    refine Ev.cut (Q1 := laws_FnExactStateOn_c15_Q r1755 r1756 r1757 r2033 r2034 r2035 (([] : Mem).length) M1238.length (M1238.length + 1) M1760.length M2036.length r2201) (by
        have h := hr2202
        obtain ⟨r2145, hx2144, h⟩ := bind_some h
        refine Rg (kx (ldOA h2142 o2135 rfl rfl (ble rfl) rfl) (kx (ldOA h2138 o2131 rfl rfl (ble rfl) rfl) (kc (cl (v := .bool r2145) rfl (cns rfl (cns rfl rfl)) rfl (laws_eqBook_ok (Book.mk r2115 ([] : List Int) ([] : List Tally)) (Book.mk r1180 r1181 r1182) _ hx2144) nm) (kx (uNot rfl) (kx (mvO rfl) ?_)))))
        rcases ite_some h with ⟨hb2146, h⟩ | ⟨hb2146, h⟩
        ·refine kx (guF rfl (congrArg Bool.not hb2146) (mvO h2143)) (kx (guF rfl (congrArg Bool.not hb2146) (mvO h2139)) (kx (guF rfl (congrArg Bool.not hb2146) (bNeq rfl rfl)) (kx (pkF rfl (congrArg Bool.not hb2146) rfl) (Rn (hA h2140 (hA h2141 (hN rfl hZ))) fun e2147 h2149 h2150 h2151 => ?_))))
         clear h2138 h2139 h2140 h2141 h2142 h2143
         obtain rfl := si h
         exact kd (show laws_FnExactStateOn_c15_Q r1755 r1756 r1757 r2033 r2034 r2035 (([] : Mem).length) M1238.length (M1238.length + 1) M1760.length M2036.length _ _ from ⟨rfl, h2149, h2150, h2151, o2132, o2133, o2134⟩)
        refine kx (gsF rfl (congrArg Bool.not hb2146)) (kx (gsF rfl (congrArg Bool.not hb2146)) (kx (gsF rfl (congrArg Bool.not hb2146)) (kx (pkT rfl (congrArg Bool.not hb2146) rfl) (Rn (hA h2140 (hA h2141 (hV (.bool true) rfl hZ))) fun e2152 h2154 h2155 h2156 => ?_))))
        clear h2138 h2139 h2140 h2141 h2142 h2143
        obtain rfl := si h
        exact kd (show laws_FnExactStateOn_c15_Q r1755 r1756 r1757 r2033 r2034 r2035 (([] : Mem).length) M1238.length (M1238.length + 1) M1760.length M2036.length _ _ from ⟨rfl, h2154, h2155, h2156, o2132, o2133, o2134⟩)) ?_
    revert h hr2202
    revert r2201
    intro y2159 hr2202 h
    intro x e2157 M2158 hq2200
    obtain ⟨rfl, h2160, h2161, h2162, o2163, o2164, o2165⟩ := hq2200
    refine sN ?_
    rcases ite_some h with ⟨hb2166, h⟩ | ⟨hb2166, h⟩
    ·refine cT h2162 hb2166 (sq (Rg (kx (mvO rfl) (Rn (hV (.bool false) rfl hZ) fun e2167 h2169 => sN (xx (sR ?_))))))
     clear h2160 h2161 h2162
     obtain rfl := si h
     exact eR (resT h2169 res0) rfl
    obtain ⟨r2176, hx2175, h⟩ := bind_some h
    refine cF h2162 hb2166 (xx (sN (sq (Rg (kx (mvO rfl) (Rn (hV (.loc M1760.length 1 0 0) h2160 (hV (.int .i64 r2033) h2161 (hV (.int .i64 1) rfl hZ))) fun e2170 h2172 h2173 h2174 => sN (sq (Rg (kx (ldOA h2172 o2165 rfl rfl (ble rfl) rfl) (kx (mvO h2174) (kc (cl (v := .int .i64 r2176) rfl (cns rfl (cns rfl rfl)) (ra1 (ra_agg (mp1 rfl (mp1 (ra1_row o2163 (by simp [hl1929, hl1930, hl1958, hl2042, hl2043]) (cI_fl _)) (mp1 (ra1_row o2164 (by simp [hl1929, hl1930, hl1958, hl2042, hl2043]) Tally.fl) mp0)))) (ra1 rfl ra0)) (laws_heldBook_ok (Book.mk r1755 r2034 r2035) 1 _ hx2175) (fun _ => rfl)) (kx (mvO rfl) (Rn (hA h2173 (hN rfl hZ)) fun e2177 h2179 h2180 => sN (sq (sq (Rg (kx (mvO h2180) (kx (bLss rfl rfl) (Rn (hA h2179 (hA h2180 (hN rfl hZ))) fun e2181 h2183 h2184 h2185 => sN ?_)))))))))))))))))))
    clear h2160 h2161 h2162 h2172 h2173 h2179 h2180
    rcases ite_some h with ⟨hb2186, h⟩ | ⟨hb2186, h⟩
    ·refine cT h2185 hb2186 (sq (Rg (kx (mvO rfl) (Rn (hV (.bool false) rfl hZ) fun e2187 h2189 => sN (xx (sR ?_))))))
     clear h2183 h2184 h2185
     obtain rfl := si h
     exact eR (resT h2189 res0) rfl
    refine cF h2185 hb2186 (xx (sN (sq (sq (Rg (kx (mvO h2184) (kx (mvO h2183) (kx (bNeq rfl rfl) (Rn (hN rfl hZ) fun e2190 h2192 => sN ?_)))))))))
    clear h2183 h2184 h2185
    rcases ite_some h with ⟨hb2193, h⟩ | ⟨hb2193, h⟩
    ·refine cT h2192 hb2193 (sq (Rg (kx (mvO rfl) (Rn (hV (.bool false) rfl hZ) fun e2194 h2196 => sN (xx (sR ?_))))))
     clear h2192
     obtain rfl := si h
     exact eR (resT h2196 res0) rfl
    refine cF h2192 hb2193 (xx (sN (sq (Rg (kx (mvO rfl) (Rn (hV (.bool true) rfl hZ) fun e2197 h2199 => sN (xx ?_)))))))
    clear h2192
    obtain rfl := si h
    exact eR (resT h2199 res0) rfl
   refine kc (cl (v := .tup [.agg [.int .i64 r2203, .sl (some 2) (r2204.map (cI .i64)), .sl (some 75) (r2205.map Tally.c)], .int .i64 0]) rfl (cns rfl (cns rfl (cns rfl rfl))) rfl (impl_StateOn_ok (Book.mk r2109 r2110 r2111) r2113 a3 _ hx2114) nm) (kx (mvO rfl) (kx (exT rfl rfl) (kx (exT rfl rfl) (ku (alO zero33) fun M2207 hM2208 => ?_))))
   have o2209 := push_old hM2208 o2046
   have ne2210 := ne_new o2046
   have o2211 := push_old hM2208 o2044
   have ne2212 := ne_new o2044
   have o2213 := push_old hM2208 o2045
   have ne2214 := ne_new o2045
   have o2215 := push_old hM2208 o2047
   have ne2216 := ne_new o2047
   have o2217 : M2207[M2036.length]? = some (.live ⟨.box, 33, 3, [[.int .i64 0, .nils, .nils]]⟩) := push_new hM2208
   refine kw (stO rfl rfl o2217 rfl rfl ⟨rfl, ble rfl⟩ rfl rfl) fun M2218 hM2219 => ?_
   have o2220 := set_ne hM2219 ne2210 o2209
   have o2221 := set_ne hM2219 ne2212 o2211
   have o2222 := set_ne hM2219 ne2214 o2213
   have o2223 := set_ne hM2219 ne2216 o2215
   have o2224 : M2218[M2036.length]? = some (.live ⟨.box, 33, 3, [[.int .i64 r2203, .sl none (r2204.map (cI .i64)), .sl none (r2205.map Tally.c)]]⟩) := set_same hM2219 o2217
   obtain ⟨r2290, hr2291, h⟩ := bind_some h
   refine kx (mvO rfl) (Rn (hA h2099 (hA h2100 (hA h2101 (hA h2102 (hV (.loc M2036.length 1 0 0) rfl (hV (.int .i64 0) rfl hZ)))))) fun e2225 h2227 h2228 h2229 h2230 h2231 h2232 => sN (sq (sq ?_)))
   clear h2096 h2097 h2098 h2099 h2100 h2101 h2102 h2103
   refine Ev.cut (Q1 := laws_FnExactStateOn_c16_Q r1755 r1756 r1757 r2033 r2034 r2035 (([] : Mem).length) M1238.length (M1238.length + 1) M1760.length M2036.length r2290) (by
       have h := hr2291
       obtain ⟨r2234, hx2233, h⟩ := bind_some h
       refine Rg (kx (ldOA h2231 o2224 rfl rfl (ble rfl) rfl) (kx (ldOA h2227 o2220 rfl rfl (ble rfl) rfl) (kc (cl (v := .bool r2234) rfl (cns rfl (cns rfl rfl)) rfl (laws_eqBook_ok (Book.mk r2203 r2204 r2205) (Book.mk r1180 r1181 r1182) _ hx2233) nm) (kx (uNot rfl) (kx (mvO rfl) ?_)))))
       rcases ite_some h with ⟨hb2235, h⟩ | ⟨hb2235, h⟩
       ·refine kx (guF rfl (congrArg Bool.not hb2235) (mvO h2232)) (kx (guF rfl (congrArg Bool.not hb2235) (mvO h2228)) (kx (guF rfl (congrArg Bool.not hb2235) (bNeq rfl rfl)) (kx (pkF rfl (congrArg Bool.not hb2235) rfl) (Rn (hA h2229 (hA h2230 (hV (.bool false) rfl hZ))) fun e2236 h2238 h2239 h2240 => ?_))))
        clear h2227 h2228 h2229 h2230 h2231 h2232
        obtain rfl := si h
        exact kd (show laws_FnExactStateOn_c16_Q r1755 r1756 r1757 r2033 r2034 r2035 (([] : Mem).length) M1238.length (M1238.length + 1) M1760.length M2036.length _ _ from ⟨rfl, h2238, h2239, h2240, o2221, o2222, o2223⟩)
       refine kx (gsF rfl (congrArg Bool.not hb2235)) (kx (gsF rfl (congrArg Bool.not hb2235)) (kx (gsF rfl (congrArg Bool.not hb2235)) (kx (pkT rfl (congrArg Bool.not hb2235) rfl) (Rn (hA h2229 (hA h2230 (hV (.bool true) rfl hZ))) fun e2241 h2243 h2244 h2245 => ?_))))
       clear h2227 h2228 h2229 h2230 h2231 h2232
       obtain rfl := si h
       exact kd (show laws_FnExactStateOn_c16_Q r1755 r1756 r1757 r2033 r2034 r2035 (([] : Mem).length) M1238.length (M1238.length + 1) M1760.length M2036.length _ _ from ⟨rfl, h2243, h2244, h2245, o2221, o2222, o2223⟩)) ?_
   revert h hr2291
   revert r2290
   intro y2248 hr2291 h
   intro x e2246 M2247 hq2289
   obtain ⟨rfl, h2249, h2250, h2251, o2252, o2253, o2254⟩ := hq2289
   refine sN ?_
   rcases ite_some h with ⟨hb2255, h⟩ | ⟨hb2255, h⟩
   ·refine cT h2251 hb2255 (sq (Rg (kx (mvO rfl) (Rn (hV (.bool false) rfl hZ) fun e2256 h2258 => sN (xx (sR ?_))))))
    clear h2249 h2250 h2251
    obtain rfl := si h
    exact eR (resT h2258 res0) rfl
   obtain ⟨r2265, hx2264, h⟩ := bind_some h
   refine cF h2251 hb2255 (xx (sN (sq (Rg (kx (mvO rfl) (Rn (hV (.loc M1760.length 1 0 0) h2249 (hV (.int .i64 r2033) h2250 (hV (.int .i64 1) rfl hZ))) fun e2259 h2261 h2262 h2263 => sN (sq (Rg (kx (ldOA h2261 o2254 rfl rfl (ble rfl) rfl) (kx (mvO h2263) (kc (cl (v := .int .i64 r2265) rfl (cns rfl (cns rfl rfl)) (ra1 (ra_agg (mp1 rfl (mp1 (ra1_row o2252 (by simp [hl1929, hl1930, hl1958, hl2042, hl2043]) (cI_fl _)) (mp1 (ra1_row o2253 (by simp [hl1929, hl1930, hl1958, hl2042, hl2043]) Tally.fl) mp0)))) (ra1 rfl ra0)) (laws_heldBook_ok (Book.mk r1755 r2034 r2035) 1 _ hx2264) (fun _ => rfl)) (kx (mvO rfl) (Rn (hA h2262 (hN rfl hZ)) fun e2266 h2268 h2269 => sN (sq (sq (Rg (kx (mvO h2269) (kx (bLss rfl rfl) (Rn (hA h2268 (hA h2269 (hN rfl hZ))) fun e2270 h2272 h2273 h2274 => sN ?_)))))))))))))))))))
   clear h2249 h2250 h2251 h2261 h2262 h2268 h2269
   rcases ite_some h with ⟨hb2275, h⟩ | ⟨hb2275, h⟩
   ·refine cT h2274 hb2275 (sq (Rg (kx (mvO rfl) (Rn (hV (.bool false) rfl hZ) fun e2276 h2278 => sN (xx (sR ?_))))))
    clear h2272 h2273 h2274
    obtain rfl := si h
    exact eR (resT h2278 res0) rfl
   refine cF h2274 hb2275 (xx (sN (sq (sq (Rg (kx (mvO h2273) (kx (mvO h2272) (kx (bNeq rfl rfl) (Rn (hN rfl hZ) fun e2279 h2281 => sN ?_)))))))))
   clear h2272 h2273 h2274
   rcases ite_some h with ⟨hb2282, h⟩ | ⟨hb2282, h⟩
   ·refine cT h2281 hb2282 (sq (Rg (kx (mvO rfl) (Rn (hV (.bool false) rfl hZ) fun e2283 h2285 => sN (xx (sR ?_))))))
    clear h2281
    obtain rfl := si h
    exact eR (resT h2285 res0) rfl
   refine cF h2281 hb2282 (xx (sN (sq (Rg (kx (mvO rfl) (Rn (hV (.bool true) rfl hZ) fun e2286 h2288 => sN (xx ?_)))))))
   clear h2281
   obtain rfl := si h
   exact eR (resT h2288 res0) rfl
  refine cT h1905 (congrArg Bool.not hb1906) (sq (Rg (kx (mvO rfl) (Rn (hV (.bool false) rfl hZ) fun e2296 h2298 => sN (xx (sR ?_))))))
  clear h1896 h1897 h1898 h1899 h1900 h1901 h1902 h1903 h1904 h1905
  obtain rfl := si h
  exact eR (resT h2298 res0) rfl
 refine cT h1888 (congrArg Bool.not hb1889) (sq (Rg (kx (mvO rfl) (Rn (hV (.bool false) rfl hZ) fun e2299 h2301 => sN (xx (sR ?_))))))
 clear h1879 h1880 h1881 h1882 h1883 h1884 h1885 h1886 h1887 h1888
 obtain rfl := si h
 exact eR (resT h2301 res0) rfl
end Go.Proofs.Ytpdmcpnabjifhaa
