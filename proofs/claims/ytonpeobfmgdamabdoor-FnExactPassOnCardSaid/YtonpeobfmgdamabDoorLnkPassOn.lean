/- Printed by a program of ours (ext.py). -/
import Derived.Test.YtonpeobfmgdamabDoorLnkPassOnx1
set_option linter.unusedVariables false
set_option linter.unusedSimpArgs false
set_option maxRecDepth 100000
set_option maxHeartbeats 2000000
namespace Go.Proofs.YtonpeobfmgdamabDoor
open Go Go.Ab
/-! ### loop.example/g01263/laws.FnExactPassOn (f4) -/
def laws_FnExactPassOn_c1_Q (a1 : Chain) (a2 : Party) (a3 : List UInt8) (r69 : Ar 16 Int) (r70 : Int) (r86 : List UInt8) (r87 : Bool) (r88 : List Notch) (r89 : Ar 16 Int) (r90 : List Mark) (r129 : Ar 16 Int) (r130 : Int) (i901_1 : Nat) (i901_2 : Nat) (i901_3 : Nat) (i901_4 : Nat) (i901_5 : Nat) (g : Bool) (q : Out) : Prop := q.1 = .nrm ∧ eget q.2.1 2 = .str a3 ∧ eget q.2.1 3 = .pt none (.str a1.Debtor :: (.bool a1.Stock.Stock :: (.sl none (a1.Stock.Notches.map Notch.c) :: ((arC (cI .i8) 0 a1.Stock.Grain) ++ ((.sl none (a1.Marks.map Mark.c) :: []) : List AV))))) ∧ eget q.2.1 4 = .pt none [.str a2.Name, .int .u32 a2.Secret] ∧ eget q.2.1 8 = .loc i901_1 1 0 0 ∧ eget q.2.1 9 = .int .i64 r70 ∧ eget q.2.1 10 = .loc i901_4 1 0 0 ∧ eget q.2.1 11 = .loc i901_5 1 0 0 ∧ eget q.2.1 12 = .int .i64 r130 ∧ eget q.2.1 58 = .bool g ∧ q.2.2[i901_4]? = some (.live ⟨.box, 34, 20, [(.str r86 :: (.bool r87 :: (.lsl i901_2 r88.length 0 r88.length :: ((arC (cI .i8) 0 r89) ++ ((.lsl (i901_2 + 1) r90.length 0 r90.length :: []) : List AV)))))]⟩) ∧ q.2.2[i901_5]? = some (.live ⟨.box, 34, 20, [(.str ([] : List UInt8) :: (.bool false :: (.nils :: ((arC (cI .i8) 0 r129) ++ ((.nils :: []) : List AV)))))]⟩) ∧ q.2.2[i901_1]? = some (.live ⟨.box, 34, 20, [(.str ([] : List UInt8) :: (.bool false :: (.nils :: ((arC (cI .i8) 0 r69) ++ ((.nils :: []) : List AV)))))]⟩) ∧ q.2.2[i901_2]? = some (.live ⟨.grow, 107, 2, r88.map Notch.c⟩) ∧ q.2.2[(i901_2 + 1)]? = some (.live ⟨.grow, 39, 2, r90.map Mark.c⟩)
def laws_FnExactPassOn_c2_Q (a1 : Chain) (a2 : Party) (a3 : List UInt8) (r69 : Ar 16 Int) (r70 : Int) (r129 : Ar 16 Int) (i902_1 : Nat) (i902_2 : Nat) (g : Bool) (q : Out) : Prop := q.1 = .nrm ∧ eget q.2.1 2 = .str a3 ∧ eget q.2.1 3 = .pt none (.str a1.Debtor :: (.bool a1.Stock.Stock :: (.sl none (a1.Stock.Notches.map Notch.c) :: ((arC (cI .i8) 0 a1.Stock.Grain) ++ ((.sl none (a1.Marks.map Mark.c) :: []) : List AV))))) ∧ eget q.2.1 4 = .pt none [.str a2.Name, .int .u32 a2.Secret] ∧ eget q.2.1 8 = .loc i902_2 1 0 0 ∧ eget q.2.1 9 = .int .i64 r70 ∧ eget q.2.1 11 = .loc i902_1 1 0 0 ∧ eget q.2.1 79 = .bool g ∧ q.2.2[i902_1]? = some (.live ⟨.box, 34, 20, [(.str ([] : List UInt8) :: (.bool false :: (.nils :: ((arC (cI .i8) 0 r129) ++ ((.nils :: []) : List AV)))))]⟩) ∧ q.2.2[i902_2]? = some (.live ⟨.box, 34, 20, [(.str ([] : List UInt8) :: (.bool false :: (.nils :: ((arC (cI .i8) 0 r69) ++ ((.nils :: []) : List AV)))))]⟩)
def laws_FnExactPassOn_c3_Q (r129 : Ar 16 Int) (r321 : Int) (i903_1 : Nat) (i903_2 : Nat) (i903_3 : Nat) (g : Bool) (q : Out) : Prop := q.1 = .nrm ∧ eget q.2.1 11 = .loc i903_1 1 0 0 ∧ eget q.2.1 14 = .int .i64 r321 ∧ eget q.2.1 108 = .bool g ∧ q.2.2[i903_1]? = some (.live ⟨.box, 34, 20, [(.str ([] : List UInt8) :: (.bool false :: (.nils :: ((arC (cI .i8) 0 r129) ++ ((.nils :: []) : List AV)))))]⟩)
def laws_FnExactPassOn_c4_Q (r129 : Ar 16 Int) (r321 : Int) (i904_1 : Nat) (i904_2 : Nat) (i904_3 : Nat) (g : Bool) (q : Out) : Prop := q.1 = .nrm ∧ eget q.2.1 11 = .loc i904_1 1 0 0 ∧ eget q.2.1 14 = .int .i64 r321 ∧ eget q.2.1 108 = .bool g ∧ q.2.2[i904_1]? = some (.live ⟨.box, 34, 20, [(.str ([] : List UInt8) :: (.bool false :: (.nils :: ((arC (cI .i8) 0 r129) ++ ((.nils :: []) : List AV)))))]⟩)
def laws_FnExactPassOn_c5_Q (a1 : Chain) (a2 : Party) (a3 : List UInt8) (r69 : Ar 16 Int) (r70 : Int) (r86 : List UInt8) (r87 : Bool) (r88 : List Notch) (r89 : Ar 16 Int) (r90 : List Mark) (r571 : List UInt8) (r572 : Bool) (r573 : List Notch) (r574 : Ar 16 Int) (r575 : List Mark) (i905_1 : Nat) (i905_2 : Nat) (i905_3 : Nat) (i905_4 : Nat) (i905_5 : Nat) (i905_6 : Nat) (i905_7 : Nat) (g : Bool) (q : Out) : Prop := q.1 = .nrm ∧ eget q.2.1 2 = .str a3 ∧ eget q.2.1 3 = .pt none (.str a1.Debtor :: (.bool a1.Stock.Stock :: (.sl none (a1.Stock.Notches.map Notch.c) :: ((arC (cI .i8) 0 a1.Stock.Grain) ++ ((.sl none (a1.Marks.map Mark.c) :: []) : List AV))))) ∧ eget q.2.1 4 = .pt none [.str a2.Name, .int .u32 a2.Secret] ∧ eget q.2.1 8 = .loc i905_1 1 0 0 ∧ eget q.2.1 9 = .int .i64 r70 ∧ eget q.2.1 10 = .loc i905_4 1 0 0 ∧ eget q.2.1 11 = .loc (i905_5 + 2) 1 0 0 ∧ eget q.2.1 12 = .int .i64 0 ∧ eget q.2.1 58 = .bool g ∧ q.2.2[i905_4]? = some (.live ⟨.box, 34, 20, [(.str r86 :: (.bool r87 :: (.lsl i905_2 r88.length 0 r88.length :: ((arC (cI .i8) 0 r89) ++ ((.lsl (i905_2 + 1) r90.length 0 r90.length :: []) : List AV)))))]⟩) ∧ q.2.2[i905_5]? = some (.live ⟨.grow, 107, 2, r573.map Notch.c⟩) ∧ q.2.2[(i905_5 + 1)]? = some (.live ⟨.grow, 39, 2, r575.map Mark.c⟩) ∧ q.2.2[(i905_5 + 2)]? = some (.live ⟨.box, 34, 20, [(.str r571 :: (.bool r572 :: (.lsl i905_5 r573.length 0 r573.length :: ((arC (cI .i8) 0 r574) ++ ((.lsl (i905_5 + 1) r575.length 0 r575.length :: []) : List AV)))))]⟩) ∧ q.2.2[i905_1]? = some (.live ⟨.box, 34, 20, [(.str ([] : List UInt8) :: (.bool false :: (.nils :: ((arC (cI .i8) 0 r69) ++ ((.nils :: []) : List AV)))))]⟩) ∧ q.2.2[i905_2]? = some (.live ⟨.grow, 107, 2, r88.map Notch.c⟩) ∧ q.2.2[(i905_2 + 1)]? = some (.live ⟨.grow, 39, 2, r90.map Mark.c⟩)
def laws_FnExactPassOn_c6_Q (a1 : Chain) (a2 : Party) (a3 : List UInt8) (r69 : Ar 16 Int) (r70 : Int) (r571 : List UInt8) (r572 : Bool) (r573 : List Notch) (r574 : Ar 16 Int) (r575 : List Mark) (i906_1 : Nat) (i906_2 : Nat) (i906_3 : Nat) (i906_4 : Nat) (g : Bool) (q : Out) : Prop := q.1 = .nrm ∧ eget q.2.1 2 = .str a3 ∧ eget q.2.1 3 = .pt none (.str a1.Debtor :: (.bool a1.Stock.Stock :: (.sl none (a1.Stock.Notches.map Notch.c) :: ((arC (cI .i8) 0 a1.Stock.Grain) ++ ((.sl none (a1.Marks.map Mark.c) :: []) : List AV))))) ∧ eget q.2.1 4 = .pt none [.str a2.Name, .int .u32 a2.Secret] ∧ eget q.2.1 8 = .loc i906_4 1 0 0 ∧ eget q.2.1 9 = .int .i64 r70 ∧ eget q.2.1 11 = .loc (i906_1 + 2) 1 0 0 ∧ eget q.2.1 79 = .bool g ∧ q.2.2[i906_1]? = some (.live ⟨.grow, 107, 2, r573.map Notch.c⟩) ∧ q.2.2[(i906_1 + 1)]? = some (.live ⟨.grow, 39, 2, r575.map Mark.c⟩) ∧ q.2.2[(i906_1 + 2)]? = some (.live ⟨.box, 34, 20, [(.str r571 :: (.bool r572 :: (.lsl i906_1 r573.length 0 r573.length :: ((arC (cI .i8) 0 r574) ++ ((.lsl (i906_1 + 1) r575.length 0 r575.length :: []) : List AV)))))]⟩) ∧ q.2.2[i906_4]? = some (.live ⟨.box, 34, 20, [(.str ([] : List UInt8) :: (.bool false :: (.nils :: ((arC (cI .i8) 0 r69) ++ ((.nils :: []) : List AV)))))]⟩)
def laws_FnExactPassOn_c7_Q (r571 : List UInt8) (r572 : Bool) (r573 : List Notch) (r574 : Ar 16 Int) (r575 : List Mark) (r789 : Int) (r790 : List Notch) (r791 : List Mark) (i907_1 : Nat) (i907_2 : Nat) (i907_3 : Nat) (i907_4 : Nat) (i907_5 : Nat) (g : Bool) (q : Out) : Prop := q.1 = .nrm ∧ eget q.2.1 11 = .loc (i907_1 + 2) 1 0 0 ∧ eget q.2.1 14 = .int .i64 r789 ∧ eget q.2.1 108 = .bool g ∧ q.2.2[i907_1]? = some (.live ⟨.grow, 107, 2, r790.map Notch.c⟩) ∧ q.2.2[(i907_1 + 1)]? = some (.live ⟨.grow, 39, 2, r791.map Mark.c⟩) ∧ q.2.2[(i907_1 + 2)]? = some (.live ⟨.box, 34, 20, [(.str r571 :: (.bool r572 :: (.lsl i907_1 r573.length 0 r573.length :: ((arC (cI .i8) 0 r574) ++ ((.lsl (i907_1 + 1) r575.length 0 r575.length :: []) : List AV)))))]⟩)
def laws_FnExactPassOn_c8_Q (r571 : List UInt8) (r572 : Bool) (r573 : List Notch) (r574 : Ar 16 Int) (r575 : List Mark) (r789 : Int) (r790 : List Notch) (r791 : List Mark) (i908_1 : Nat) (i908_2 : Nat) (i908_3 : Nat) (i908_4 : Nat) (i908_5 : Nat) (g : Bool) (q : Out) : Prop := q.1 = .nrm ∧ eget q.2.1 11 = .loc (i908_1 + 2) 1 0 0 ∧ eget q.2.1 14 = .int .i64 r789 ∧ eget q.2.1 108 = .bool g ∧ q.2.2[i908_1]? = some (.live ⟨.grow, 107, 2, r790.map Notch.c⟩) ∧ q.2.2[(i908_1 + 1)]? = some (.live ⟨.grow, 39, 2, r791.map Mark.c⟩) ∧ q.2.2[(i908_1 + 2)]? = some (.live ⟨.box, 34, 20, [(.str r571 :: (.bool r572 :: (.lsl i908_1 r573.length 0 r573.length :: ((arC (cI .i8) 0 r574) ++ ((.lsl (i908_1 + 1) r575.length 0 r575.length :: []) : List AV)))))]⟩)
def laws_FnExactPassOn_c9_Q (a1 : Chain) (a2 : Party) (a3 : List UInt8) (r1064 : List UInt8) (r1065 : Bool) (r1066 : List Notch) (r1067 : Ar 16 Int) (r1068 : List Mark) (r1084 : List UInt8) (r1085 : Bool) (r1086 : List Notch) (r1087 : Ar 16 Int) (r1088 : List Mark) (r1127 : Ar 16 Int) (r1128 : Int) (i909_1 : Nat) (i909_2 : Nat) (i909_3 : Nat) (i909_4 : Nat) (i909_5 : Nat) (g : Bool) (q : Out) : Prop := q.1 = .nrm ∧ eget q.2.1 2 = .str a3 ∧ eget q.2.1 3 = .pt none (.str a1.Debtor :: (.bool a1.Stock.Stock :: (.sl none (a1.Stock.Notches.map Notch.c) :: ((arC (cI .i8) 0 a1.Stock.Grain) ++ ((.sl none (a1.Marks.map Mark.c) :: []) : List AV))))) ∧ eget q.2.1 4 = .pt none [.str a2.Name, .int .u32 a2.Secret] ∧ eget q.2.1 8 = .loc i909_1 1 0 0 ∧ eget q.2.1 9 = .int .i64 0 ∧ eget q.2.1 10 = .loc i909_4 1 0 0 ∧ eget q.2.1 11 = .loc i909_5 1 0 0 ∧ eget q.2.1 12 = .int .i64 r1128 ∧ eget q.2.1 58 = .bool g ∧ q.2.2[i909_1]? = some (.live ⟨.box, 34, 20, [(.str r1064 :: (.bool r1065 :: (.sl none (r1066.map Notch.c) :: ((arC (cI .i8) 0 r1067) ++ ((.sl none (r1068.map Mark.c) :: []) : List AV)))))]⟩) ∧ q.2.2[i909_2]? = some (.live ⟨.grow, 107, 2, r1086.map Notch.c⟩) ∧ q.2.2[(i909_2 + 1)]? = some (.live ⟨.grow, 39, 2, r1088.map Mark.c⟩) ∧ q.2.2[i909_4]? = some (.live ⟨.box, 34, 20, [(.str r1084 :: (.bool r1085 :: (.lsl i909_2 r1086.length 0 r1086.length :: ((arC (cI .i8) 0 r1087) ++ ((.lsl (i909_2 + 1) r1088.length 0 r1088.length :: []) : List AV)))))]⟩) ∧ q.2.2[i909_5]? = some (.live ⟨.box, 34, 20, [(.str ([] : List UInt8) :: (.bool false :: (.nils :: ((arC (cI .i8) 0 r1127) ++ ((.nils :: []) : List AV)))))]⟩)
def laws_FnExactPassOn_c10_Q (a1 : Chain) (a2 : Party) (a3 : List UInt8) (r1064 : List UInt8) (r1065 : Bool) (r1066 : List Notch) (r1067 : Ar 16 Int) (r1068 : List Mark) (r1127 : Ar 16 Int) (i910_1 : Nat) (i910_2 : Nat) (g : Bool) (q : Out) : Prop := q.1 = .nrm ∧ eget q.2.1 2 = .str a3 ∧ eget q.2.1 3 = .pt none (.str a1.Debtor :: (.bool a1.Stock.Stock :: (.sl none (a1.Stock.Notches.map Notch.c) :: ((arC (cI .i8) 0 a1.Stock.Grain) ++ ((.sl none (a1.Marks.map Mark.c) :: []) : List AV))))) ∧ eget q.2.1 4 = .pt none [.str a2.Name, .int .u32 a2.Secret] ∧ eget q.2.1 8 = .loc i910_1 1 0 0 ∧ eget q.2.1 9 = .int .i64 0 ∧ eget q.2.1 11 = .loc i910_2 1 0 0 ∧ eget q.2.1 79 = .bool g ∧ q.2.2[i910_1]? = some (.live ⟨.box, 34, 20, [(.str r1064 :: (.bool r1065 :: (.sl none (r1066.map Notch.c) :: ((arC (cI .i8) 0 r1067) ++ ((.sl none (r1068.map Mark.c) :: []) : List AV)))))]⟩) ∧ q.2.2[i910_2]? = some (.live ⟨.box, 34, 20, [(.str ([] : List UInt8) :: (.bool false :: (.nils :: ((arC (cI .i8) 0 r1127) ++ ((.nils :: []) : List AV)))))]⟩)
def laws_FnExactPassOn_c11_Q (r1127 : Ar 16 Int) (r1319 : Int) (i911_1 : Nat) (i911_2 : Nat) (i911_3 : Nat) (g : Bool) (q : Out) : Prop := q.1 = .nrm ∧ eget q.2.1 11 = .loc i911_2 1 0 0 ∧ eget q.2.1 14 = .int .i64 r1319 ∧ eget q.2.1 108 = .bool g ∧ q.2.2[i911_2]? = some (.live ⟨.box, 34, 20, [(.str ([] : List UInt8) :: (.bool false :: (.nils :: ((arC (cI .i8) 0 r1127) ++ ((.nils :: []) : List AV)))))]⟩)
def laws_FnExactPassOn_c12_Q (r1127 : Ar 16 Int) (r1319 : Int) (i912_1 : Nat) (i912_2 : Nat) (i912_3 : Nat) (g : Bool) (q : Out) : Prop := q.1 = .nrm ∧ eget q.2.1 11 = .loc i912_2 1 0 0 ∧ eget q.2.1 14 = .int .i64 r1319 ∧ eget q.2.1 108 = .bool g ∧ q.2.2[i912_2]? = some (.live ⟨.box, 34, 20, [(.str ([] : List UInt8) :: (.bool false :: (.nils :: ((arC (cI .i8) 0 r1127) ++ ((.nils :: []) : List AV)))))]⟩)
def laws_FnExactPassOn_c13_Q (a1 : Chain) (a2 : Party) (a3 : List UInt8) (r1064 : List UInt8) (r1065 : Bool) (r1066 : List Notch) (r1067 : Ar 16 Int) (r1068 : List Mark) (r1084 : List UInt8) (r1085 : Bool) (r1086 : List Notch) (r1087 : Ar 16 Int) (r1088 : List Mark) (r1569 : List UInt8) (r1570 : Bool) (r1571 : List Notch) (r1572 : Ar 16 Int) (r1573 : List Mark) (i913_1 : Nat) (i913_2 : Nat) (i913_3 : Nat) (i913_4 : Nat) (i913_5 : Nat) (i913_6 : Nat) (i913_7 : Nat) (g : Bool) (q : Out) : Prop := q.1 = .nrm ∧ eget q.2.1 2 = .str a3 ∧ eget q.2.1 3 = .pt none (.str a1.Debtor :: (.bool a1.Stock.Stock :: (.sl none (a1.Stock.Notches.map Notch.c) :: ((arC (cI .i8) 0 a1.Stock.Grain) ++ ((.sl none (a1.Marks.map Mark.c) :: []) : List AV))))) ∧ eget q.2.1 4 = .pt none [.str a2.Name, .int .u32 a2.Secret] ∧ eget q.2.1 8 = .loc i913_1 1 0 0 ∧ eget q.2.1 9 = .int .i64 0 ∧ eget q.2.1 10 = .loc i913_4 1 0 0 ∧ eget q.2.1 11 = .loc (i913_5 + 2) 1 0 0 ∧ eget q.2.1 12 = .int .i64 0 ∧ eget q.2.1 58 = .bool g ∧ q.2.2[i913_1]? = some (.live ⟨.box, 34, 20, [(.str r1064 :: (.bool r1065 :: (.sl none (r1066.map Notch.c) :: ((arC (cI .i8) 0 r1067) ++ ((.sl none (r1068.map Mark.c) :: []) : List AV)))))]⟩) ∧ q.2.2[i913_2]? = some (.live ⟨.grow, 107, 2, r1086.map Notch.c⟩) ∧ q.2.2[(i913_2 + 1)]? = some (.live ⟨.grow, 39, 2, r1088.map Mark.c⟩) ∧ q.2.2[i913_4]? = some (.live ⟨.box, 34, 20, [(.str r1084 :: (.bool r1085 :: (.lsl i913_2 r1086.length 0 r1086.length :: ((arC (cI .i8) 0 r1087) ++ ((.lsl (i913_2 + 1) r1088.length 0 r1088.length :: []) : List AV)))))]⟩) ∧ q.2.2[i913_5]? = some (.live ⟨.grow, 107, 2, r1571.map Notch.c⟩) ∧ q.2.2[(i913_5 + 1)]? = some (.live ⟨.grow, 39, 2, r1573.map Mark.c⟩) ∧ q.2.2[(i913_5 + 2)]? = some (.live ⟨.box, 34, 20, [(.str r1569 :: (.bool r1570 :: (.lsl i913_5 r1571.length 0 r1571.length :: ((arC (cI .i8) 0 r1572) ++ ((.lsl (i913_5 + 1) r1573.length 0 r1573.length :: []) : List AV)))))]⟩)
def laws_FnExactPassOn_c14_Q (a1 : Chain) (a2 : Party) (a3 : List UInt8) (r1064 : List UInt8) (r1065 : Bool) (r1066 : List Notch) (r1067 : Ar 16 Int) (r1068 : List Mark) (r1569 : List UInt8) (r1570 : Bool) (r1571 : List Notch) (r1572 : Ar 16 Int) (r1573 : List Mark) (i914_1 : Nat) (i914_2 : Nat) (i914_3 : Nat) (i914_4 : Nat) (g : Bool) (q : Out) : Prop := q.1 = .nrm ∧ eget q.2.1 2 = .str a3 ∧ eget q.2.1 3 = .pt none (.str a1.Debtor :: (.bool a1.Stock.Stock :: (.sl none (a1.Stock.Notches.map Notch.c) :: ((arC (cI .i8) 0 a1.Stock.Grain) ++ ((.sl none (a1.Marks.map Mark.c) :: []) : List AV))))) ∧ eget q.2.1 4 = .pt none [.str a2.Name, .int .u32 a2.Secret] ∧ eget q.2.1 8 = .loc i914_1 1 0 0 ∧ eget q.2.1 9 = .int .i64 0 ∧ eget q.2.1 11 = .loc (i914_2 + 2) 1 0 0 ∧ eget q.2.1 79 = .bool g ∧ q.2.2[i914_1]? = some (.live ⟨.box, 34, 20, [(.str r1064 :: (.bool r1065 :: (.sl none (r1066.map Notch.c) :: ((arC (cI .i8) 0 r1067) ++ ((.sl none (r1068.map Mark.c) :: []) : List AV)))))]⟩) ∧ q.2.2[i914_2]? = some (.live ⟨.grow, 107, 2, r1571.map Notch.c⟩) ∧ q.2.2[(i914_2 + 1)]? = some (.live ⟨.grow, 39, 2, r1573.map Mark.c⟩) ∧ q.2.2[(i914_2 + 2)]? = some (.live ⟨.box, 34, 20, [(.str r1569 :: (.bool r1570 :: (.lsl i914_2 r1571.length 0 r1571.length :: ((arC (cI .i8) 0 r1572) ++ ((.lsl (i914_2 + 1) r1573.length 0 r1573.length :: []) : List AV)))))]⟩)
def laws_FnExactPassOn_c15_Q (r1569 : List UInt8) (r1570 : Bool) (r1571 : List Notch) (r1572 : Ar 16 Int) (r1573 : List Mark) (r1787 : Int) (r1788 : List Notch) (r1789 : List Mark) (i915_1 : Nat) (i915_2 : Nat) (i915_3 : Nat) (i915_4 : Nat) (i915_5 : Nat) (g : Bool) (q : Out) : Prop := q.1 = .nrm ∧ eget q.2.1 11 = .loc (i915_2 + 2) 1 0 0 ∧ eget q.2.1 14 = .int .i64 r1787 ∧ eget q.2.1 108 = .bool g ∧ q.2.2[i915_2]? = some (.live ⟨.grow, 107, 2, r1788.map Notch.c⟩) ∧ q.2.2[(i915_2 + 1)]? = some (.live ⟨.grow, 39, 2, r1789.map Mark.c⟩) ∧ q.2.2[(i915_2 + 2)]? = some (.live ⟨.box, 34, 20, [(.str r1569 :: (.bool r1570 :: (.lsl i915_2 r1571.length 0 r1571.length :: ((arC (cI .i8) 0 r1572) ++ ((.lsl (i915_2 + 1) r1573.length 0 r1573.length :: []) : List AV)))))]⟩)
def laws_FnExactPassOn_c16_Q (r1569 : List UInt8) (r1570 : Bool) (r1571 : List Notch) (r1572 : Ar 16 Int) (r1573 : List Mark) (r1787 : Int) (r1788 : List Notch) (r1789 : List Mark) (i916_1 : Nat) (i916_2 : Nat) (i916_3 : Nat) (i916_4 : Nat) (i916_5 : Nat) (g : Bool) (q : Out) : Prop := q.1 = .nrm ∧ eget q.2.1 11 = .loc (i916_2 + 2) 1 0 0 ∧ eget q.2.1 14 = .int .i64 r1787 ∧ eget q.2.1 108 = .bool g ∧ q.2.2[i916_2]? = some (.live ⟨.grow, 107, 2, r1788.map Notch.c⟩) ∧ q.2.2[(i916_2 + 1)]? = some (.live ⟨.grow, 39, 2, r1789.map Mark.c⟩) ∧ q.2.2[(i916_2 + 2)]? = some (.live ⟨.box, 34, 20, [(.str r1569 :: (.bool r1570 :: (.lsl i916_2 r1571.length 0 r1571.length :: ((arC (cI .i8) 0 r1572) ++ ((.lsl (i916_2 + 1) r1573.length 0 r1573.length :: []) : List AV)))))]⟩)
noncomputable def laws_FnExactPassOn (a1 : Chain) (a2 : Party) (a3 : List UInt8) : Option Bool :=
 if (decide ((a3.length : Int) > 1048576)) = true then
  some true
 else
  (laws_szChain a1 1048576).bind fun r23 =>
  if (decide (r23 < 0)) = true then
   some true
  else
   (laws_szParty a2 r23).bind fun r42 =>
   if (decide (r42 < 0)) = true then
    some true
   else
    (laws_toChain a1).bind fun (r60, r61, r62, r63, r64) =>
    (laws_toParty a2).bind fun (r66, r67) =>
    (spec_PassOn (Chain.mk r60 (Half.mk r61 r62 r63) r64) (Party.mk r66 r67) a3).bind fun r => match r with
    | (.inl (r69, r70)) =>
     (laws_toChain a1).bind fun (r86, r87, r88, r89, r90) =>
     (laws_toParty a2).bind fun (r126, r127) =>
     (impl_PassOn (Chain.mk r86 (Half.mk r87 r88 r89) r90) (Party.mk r126 r127) a3).bind fun r => match r with
     | (.inl (r129, r130)) =>
      ((laws_eqChain (Chain.mk ([] : List UInt8) (Half.mk false ([] : List Notch) r129) ([] : List Mark)) (Chain.mk ([] : List UInt8) (Half.mk false ([] : List Notch) r69) ([] : List Mark))).bind fun r161 =>
      if r161 = true then
       some (r130 != r70)
      else
       some true).bind fun y187 =>
      if y187 = true then
       some false
      else
       (laws_toChain a1).bind fun (r207, r208, r209, r210, r211) =>
       (laws_eqChain (Chain.mk r86 (Half.mk r87 r88 r89) r90) (Chain.mk r207 (Half.mk r208 r209 r210) r211)).bind fun r213 =>
       if r213 = true then
        (laws_markChain_ll r86 r87 r88 r89 r90 1).bind fun (r238, r239, r240) =>
        (if (decide (r238 < 0)) = true then
         some true
        else
         (laws_eqChain (Chain.mk ([] : List UInt8) (Half.mk false ([] : List Notch) r129) ([] : List Mark)) (Chain.mk ([] : List UInt8) (Half.mk false ([] : List Notch) r69) ([] : List Mark))).bind fun r275 =>
         if r275 = true then
          some (r130 != r70)
         else
          some true).bind fun y297 =>
        if y297 = true then
         some false
        else
         (laws_markChain_nn ([] : List UInt8) false r129 1).bind fun r321 =>
         (laws_heldChain (Chain.mk ([] : List UInt8) (Half.mk false ([] : List Notch) r129) ([] : List Mark)) 1).bind fun r348 =>
         if (decide (r348 < 0)) = true then
          some false
         else
          if (r348 != r321) = true then
           some false
          else
           (laws_toChain a1).bind fun (r389, r390, r391, r392, r393) =>
           (laws_toParty a2).bind fun (r395, r396) =>
           (impl_PassOn (Chain.mk r389 (Half.mk r390 r391 r392) r393) (Party.mk r395 r396) a3).bind fun r => match r with
           | (.inl (r398, r399)) =>
            ((laws_eqChain (Chain.mk ([] : List UInt8) (Half.mk false ([] : List Notch) r398) ([] : List Mark)) (Chain.mk ([] : List UInt8) (Half.mk false ([] : List Notch) r69) ([] : List Mark))).bind fun r422 =>
            if r422 = true then
             some (r399 != r70)
            else
             some true).bind fun y436 =>
            if y436 = true then
             some false
            else
             (laws_heldChain (Chain.mk ([] : List UInt8) (Half.mk false ([] : List Notch) r129) ([] : List Mark)) 1).bind fun r451 =>
             if (decide (r451 < 0)) = true then
              some false
             else
              if (r451 != r321) = true then
               some false
              else
               some true
           | (.inr (r478, r479, r480, r481, r482)) =>
            ((laws_eqChain (Chain.mk r478 (Half.mk r479 r480 r481) r482) (Chain.mk ([] : List UInt8) (Half.mk false ([] : List Notch) r69) ([] : List Mark))).bind fun r505 =>
            if r505 = true then
             some (0 != r70)
            else
             some true).bind fun y519 =>
            if y519 = true then
             some false
            else
             (laws_heldChain (Chain.mk ([] : List UInt8) (Half.mk false ([] : List Notch) r129) ([] : List Mark)) 1).bind fun r534 =>
             if (decide (r534 < 0)) = true then
              some false
             else
              if (r534 != r321) = true then
               some false
              else
               some true
       else
        some false
     | (.inr (r571, r572, r573, r574, r575)) =>
      ((laws_eqChain (Chain.mk r571 (Half.mk r572 r573 r574) r575) (Chain.mk ([] : List UInt8) (Half.mk false ([] : List Notch) r69) ([] : List Mark))).bind fun r623 =>
      if r623 = true then
       some (0 != r70)
      else
       some true).bind fun y649 =>
      if y649 = true then
       some false
      else
       (laws_toChain a1).bind fun (r671, r672, r673, r674, r675) =>
       (laws_eqChain (Chain.mk r86 (Half.mk r87 r88 r89) r90) (Chain.mk r671 (Half.mk r672 r673 r674) r675)).bind fun r677 =>
       if r677 = true then
        (laws_markChain_ll r86 r87 r88 r89 r90 1).bind fun (r702, r703, r704) =>
        (if (decide (r702 < 0)) = true then
         some true
        else
         (laws_eqChain (Chain.mk r571 (Half.mk r572 r573 r574) r575) (Chain.mk ([] : List UInt8) (Half.mk false ([] : List Notch) r69) ([] : List Mark))).bind fun r741 =>
         if r741 = true then
          some (0 != r70)
         else
          some true).bind fun y763 =>
        if y763 = true then
         some false
        else
         (laws_markChain_ll r571 r572 r573 r574 r575 1).bind fun (r789, r790, r791) =>
         (laws_heldChain (Chain.mk r571 (Half.mk r572 r790 r574) r791) 1).bind fun r824 =>
         if (decide (r824 < 0)) = true then
          some false
         else
          if (r824 != r789) = true then
           some false
          else
           (laws_toChain a1).bind fun (r865, r866, r867, r868, r869) =>
           (laws_toParty a2).bind fun (r871, r872) =>
           (impl_PassOn (Chain.mk r865 (Half.mk r866 r867 r868) r869) (Party.mk r871 r872) a3).bind fun r => match r with
           | (.inl (r874, r875)) =>
            ((laws_eqChain (Chain.mk ([] : List UInt8) (Half.mk false ([] : List Notch) r874) ([] : List Mark)) (Chain.mk ([] : List UInt8) (Half.mk false ([] : List Notch) r69) ([] : List Mark))).bind fun r904 =>
            if r904 = true then
             some (r875 != r70)
            else
             some true).bind fun y918 =>
            if y918 = true then
             some false
            else
             (laws_heldChain (Chain.mk r571 (Half.mk r572 r790 r574) r791) 1).bind fun r935 =>
             if (decide (r935 < 0)) = true then
              some false
             else
              if (r935 != r789) = true then
               some false
              else
               some true
           | (.inr (r962, r963, r964, r965, r966)) =>
            ((laws_eqChain (Chain.mk r962 (Half.mk r963 r964 r965) r966) (Chain.mk ([] : List UInt8) (Half.mk false ([] : List Notch) r69) ([] : List Mark))).bind fun r995 =>
            if r995 = true then
             some (0 != r70)
            else
             some true).bind fun y1009 =>
            if y1009 = true then
             some false
            else
             (laws_heldChain (Chain.mk r571 (Half.mk r572 r790 r574) r791) 1).bind fun r1026 =>
             if (decide (r1026 < 0)) = true then
              some false
             else
              if (r1026 != r789) = true then
               some false
              else
               some true
       else
        some false
    | (.inr (r1064, r1065, r1066, r1067, r1068)) =>
     (laws_toChain a1).bind fun (r1084, r1085, r1086, r1087, r1088) =>
     (laws_toParty a2).bind fun (r1124, r1125) =>
     (impl_PassOn (Chain.mk r1084 (Half.mk r1085 r1086 r1087) r1088) (Party.mk r1124 r1125) a3).bind fun r => match r with
     | (.inl (r1127, r1128)) =>
      ((laws_eqChain (Chain.mk ([] : List UInt8) (Half.mk false ([] : List Notch) r1127) ([] : List Mark)) (Chain.mk r1064 (Half.mk r1065 r1066 r1067) r1068)).bind fun r1159 =>
      if r1159 = true then
       some (r1128 != 0)
      else
       some true).bind fun y1185 =>
      if y1185 = true then
       some false
      else
       (laws_toChain a1).bind fun (r1205, r1206, r1207, r1208, r1209) =>
       (laws_eqChain (Chain.mk r1084 (Half.mk r1085 r1086 r1087) r1088) (Chain.mk r1205 (Half.mk r1206 r1207 r1208) r1209)).bind fun r1211 =>
       if r1211 = true then
        (laws_markChain_ll r1084 r1085 r1086 r1087 r1088 1).bind fun (r1236, r1237, r1238) =>
        (if (decide (r1236 < 0)) = true then
         some true
        else
         (laws_eqChain (Chain.mk ([] : List UInt8) (Half.mk false ([] : List Notch) r1127) ([] : List Mark)) (Chain.mk r1064 (Half.mk r1065 r1066 r1067) r1068)).bind fun r1273 =>
         if r1273 = true then
          some (r1128 != 0)
         else
          some true).bind fun y1295 =>
        if y1295 = true then
         some false
        else
         (laws_markChain_nn ([] : List UInt8) false r1127 1).bind fun r1319 =>
         (laws_heldChain (Chain.mk ([] : List UInt8) (Half.mk false ([] : List Notch) r1127) ([] : List Mark)) 1).bind fun r1346 =>
         if (decide (r1346 < 0)) = true then
          some false
         else
          if (r1346 != r1319) = true then
           some false
          else
           (laws_toChain a1).bind fun (r1387, r1388, r1389, r1390, r1391) =>
           (laws_toParty a2).bind fun (r1393, r1394) =>
           (impl_PassOn (Chain.mk r1387 (Half.mk r1388 r1389 r1390) r1391) (Party.mk r1393 r1394) a3).bind fun r => match r with
           | (.inl (r1396, r1397)) =>
            ((laws_eqChain (Chain.mk ([] : List UInt8) (Half.mk false ([] : List Notch) r1396) ([] : List Mark)) (Chain.mk r1064 (Half.mk r1065 r1066 r1067) r1068)).bind fun r1420 =>
            if r1420 = true then
             some (r1397 != 0)
            else
             some true).bind fun y1434 =>
            if y1434 = true then
             some false
            else
             (laws_heldChain (Chain.mk ([] : List UInt8) (Half.mk false ([] : List Notch) r1127) ([] : List Mark)) 1).bind fun r1449 =>
             if (decide (r1449 < 0)) = true then
              some false
             else
              if (r1449 != r1319) = true then
               some false
              else
               some true
           | (.inr (r1476, r1477, r1478, r1479, r1480)) =>
            ((laws_eqChain (Chain.mk r1476 (Half.mk r1477 r1478 r1479) r1480) (Chain.mk r1064 (Half.mk r1065 r1066 r1067) r1068)).bind fun r1503 =>
            if r1503 = true then
             some false
            else
             some true).bind fun y1517 =>
            if y1517 = true then
             some false
            else
             (laws_heldChain (Chain.mk ([] : List UInt8) (Half.mk false ([] : List Notch) r1127) ([] : List Mark)) 1).bind fun r1532 =>
             if (decide (r1532 < 0)) = true then
              some false
             else
              if (r1532 != r1319) = true then
               some false
              else
               some true
       else
        some false
     | (.inr (r1569, r1570, r1571, r1572, r1573)) =>
      ((laws_eqChain (Chain.mk r1569 (Half.mk r1570 r1571 r1572) r1573) (Chain.mk r1064 (Half.mk r1065 r1066 r1067) r1068)).bind fun r1621 =>
      if r1621 = true then
       some false
      else
       some true).bind fun y1647 =>
      if y1647 = true then
       some false
      else
       (laws_toChain a1).bind fun (r1669, r1670, r1671, r1672, r1673) =>
       (laws_eqChain (Chain.mk r1084 (Half.mk r1085 r1086 r1087) r1088) (Chain.mk r1669 (Half.mk r1670 r1671 r1672) r1673)).bind fun r1675 =>
       if r1675 = true then
        (laws_markChain_ll r1084 r1085 r1086 r1087 r1088 1).bind fun (r1700, r1701, r1702) =>
        (if (decide (r1700 < 0)) = true then
         some true
        else
         (laws_eqChain (Chain.mk r1569 (Half.mk r1570 r1571 r1572) r1573) (Chain.mk r1064 (Half.mk r1065 r1066 r1067) r1068)).bind fun r1739 =>
         if r1739 = true then
          some false
         else
          some true).bind fun y1761 =>
        if y1761 = true then
         some false
        else
         (laws_markChain_ll r1569 r1570 r1571 r1572 r1573 1).bind fun (r1787, r1788, r1789) =>
         (laws_heldChain (Chain.mk r1569 (Half.mk r1570 r1788 r1572) r1789) 1).bind fun r1822 =>
         if (decide (r1822 < 0)) = true then
          some false
         else
          if (r1822 != r1787) = true then
           some false
          else
           (laws_toChain a1).bind fun (r1863, r1864, r1865, r1866, r1867) =>
           (laws_toParty a2).bind fun (r1869, r1870) =>
           (impl_PassOn (Chain.mk r1863 (Half.mk r1864 r1865 r1866) r1867) (Party.mk r1869 r1870) a3).bind fun r => match r with
           | (.inl (r1872, r1873)) =>
            ((laws_eqChain (Chain.mk ([] : List UInt8) (Half.mk false ([] : List Notch) r1872) ([] : List Mark)) (Chain.mk r1064 (Half.mk r1065 r1066 r1067) r1068)).bind fun r1902 =>
            if r1902 = true then
             some (r1873 != 0)
            else
             some true).bind fun y1916 =>
            if y1916 = true then
             some false
            else
             (laws_heldChain (Chain.mk r1569 (Half.mk r1570 r1788 r1572) r1789) 1).bind fun r1933 =>
             if (decide (r1933 < 0)) = true then
              some false
             else
              if (r1933 != r1787) = true then
               some false
              else
               some true
           | (.inr (r1960, r1961, r1962, r1963, r1964)) =>
            ((laws_eqChain (Chain.mk r1960 (Half.mk r1961 r1962 r1963) r1964) (Chain.mk r1064 (Half.mk r1065 r1066 r1067) r1068)).bind fun r1993 =>
            if r1993 = true then
             some false
            else
             some true).bind fun y2007 =>
            if y2007 = true then
             some false
            else
             (laws_heldChain (Chain.mk r1569 (Half.mk r1570 r1788 r1572) r1789) 1).bind fun r2024 =>
             if (decide (r2024 < 0)) = true then
              some false
             else
              if (r2024 != r1787) = true then
               some false
              else
               some true
       else
        some false
def laws_FnExactPassOn_enc (r : Bool) : AV := .bool r
theorem laws_FnExactPassOn_ok (a1 : Chain) (a2 : Party) (a3 : List UInt8) (r : Bool) (h : laws_FnExactPassOn a1 a2 a3 = some r) : Ev (fun k => CN k 4 [.agg (.str a1.Debtor :: (.bool a1.Stock.Stock :: (.sl none (a1.Stock.Notches.map Notch.c) :: ((arC (cI .i8) 0 a1.Stock.Grain) ++ ((.sl none (a1.Marks.map Mark.c) :: []) : List AV))))), .agg [.str a2.Name, .int .u32 a2.Secret], .str a3] []) (fun p => rRes p.2 p.1 = laws_FnExactPassOn_enc r) := by
 unfold laws_FnExactPassOn at h
 refine Ev.enter (F := fun k => f4 (CN k) k) (fun k => callN_eq rfl Tryd.func4 rfl rfl rfl (by decide +kernel) (f4_eq _ _)) (sq (Rg (kx (bxI rfl rfl ⟨rfl, rfl, by decide⟩) (kx (bxI rfl rfl ⟨rfl, rfl, by decide⟩) (kx (mvO rfl) (Rn (hN rfl (hN rfl (hN rfl hZ))) fun e1 h3 h4 h5 => sN (sq (sq (Rg (kx (mvO h3) (kx (lnB Tryd.underlying9 rfl) (kx (bGtr rfl rfl) (Rn (hA h3 (hA h4 (hA h5 (hN rfl hZ)))) fun e6 h8 h9 h10 h11 => sN ?_)))))))))))))
 clear h3 h4 h5
 rcases ite_some h with ⟨hb12, h⟩ | ⟨hb12, h⟩
 ·refine cT h11 hb12 (sq (Rg (kx (mvO rfl) (Rn (hV (.bool true) rfl hZ) fun e13 h15 => sN (xx (sR ?_))))))
  clear h10 h11 h8 h9
  obtain rfl := si h
  exact eR (resT h15 res0) rfl
 obtain ⟨r23, hx22, h⟩ := bind_some h
 refine cF h11 hb12 (xx (sN (sq (Rg (kx (mvO rfl) (Rn (hA h8 (hA h9 (hA h10 (hV (.int .i64 1048576) rfl hZ)))) fun e16 h18 h19 h20 h21 => sN (sq (Rg (kx (ldPA h19 rfl rfl) (kx (mvO h21) (kc (cl (v := .int .i64 r23) rfl (cns rfl (cns rfl rfl)) rfl (laws_szChain_ok a1 1048576 _ hx22) nm) (kx (mvO rfl) (Rn (hA h18 (hA h19 (hA h20 (hN rfl hZ)))) fun e24 h26 h27 h28 h29 => sN (sq (sq (Rg (kx (mvO h29) (kx (bLss rfl rfl) (Rn (hA h26 (hA h27 (hA h28 (hA h29 (hN rfl hZ))))) fun e30 h32 h33 h34 h35 h36 => sN ?_)))))))))))))))))))
 clear h10 h11 h8 h9 h18 h19 h20 h26 h27 h28 h29
 rcases ite_some h with ⟨hb37, h⟩ | ⟨hb37, h⟩
 ·refine cT h36 hb37 (sq (Rg (kx (mvO rfl) (Rn (hV (.bool true) rfl hZ) fun e38 h40 => sN (xx (sR ?_))))))
  clear h32 h33 h34 h35 h36
  obtain rfl := si h
  exact eR (resT h40 res0) rfl
 obtain ⟨r42, hx41, h⟩ := bind_some h
 refine cF h36 hb37 (xx (sN (sq (Rg (kx (ldPA h34 rfl rfl) (kx (mvO h35) (kc (cl (v := .int .i64 r42) rfl (cns rfl (cns rfl rfl)) rfl (laws_szParty_ok a2 r23 _ hx41) nm) (kx (mvO rfl) (Rn (hA h32 (hA h33 (hA h34 (hN rfl hZ)))) fun e43 h45 h46 h47 h48 => sN (sq (sq (Rg (kx (mvO h48) (kx (bLss rfl rfl) (Rn (hA h45 (hA h46 (hA h47 (hN rfl hZ)))) fun e49 h51 h52 h53 h54 => sN ?_)))))))))))))))
 clear h32 h33 h34 h36 h45 h46 h47 h48
 rcases ite_some h with ⟨hb55, h⟩ | ⟨hb55, h⟩
 ·refine cT h54 hb55 (sq (Rg (kx (mvO rfl) (Rn (hV (.bool true) rfl hZ) fun e56 h58 => sN (xx (sR ?_))))))
  clear h51 h52 h53 h54
  obtain rfl := si h
  exact eR (resT h58 res0) rfl
 obtain ⟨⟨r60, r61, r62, r63, r64⟩, hx59, h⟩ := bind_some h
 obtain ⟨⟨r66, r67⟩, hx65, h⟩ := bind_some h
 obtain ⟨q2062, hx68, h⟩ := bind_some h
 refine cF h54 hb55 (xx (sN (sq (Rd (kf (ldPA h52 rfl rfl) (fc (cl (v := .agg (.str r60 :: (.bool r61 :: (.sl (some 107) (r62.map Notch.c) :: ((arC (cI .i8) 0 r63) ++ ((.sl (some 39) (r64.map Mark.c) :: []) : List AV)))))) rfl (cns rfl rfl) rfl (laws_toChain_ok a1 _ hx59) nm) (kf (ldPA h53 rfl rfl) (fc (cl (v := .agg [.str r66, .int .u32 r67]) rfl (cns rfl rfl) rfl (laws_toParty_ok a2 _ hx65) nm) (kf (mvO h51) ?_)))))))))
 rcases q2062 with ⟨r69, r70⟩ | ⟨r1064, r1065, r1066, r1067, r1068⟩
 ·refine fc (cl (v := .tup [.agg (.str ([] : List UInt8) :: (.bool false :: (.nils :: ((arC (cI .i8) 0 r69) ++ ((.nils :: []) : List AV))))), .int .i64 r70]) rfl (cns rfl (cns rfl (cns rfl rfl))) rfl (spec_PassOn_ok (Chain.mk r60 (Half.mk r61 r62 r63) r64) (Party.mk r66 r67) a3 _ hx68) nm) (kf (mvO rfl) (kf (exT rfl rfl) (kf (exT rfl rfl) (Ev.nfpushE (alO zero34) (Ev.fend1 fun M72 hM73 => ?_)))))
  have hM73 := fendM hM73 [⟨.box, 34, 20, [(.str ([] : List UInt8) :: (.bool false :: (.nils :: ((arC (cI .i8) 0 (Ar.rep 16 0)) ++ ((.nils :: []) : List AV)))))]⟩] rfl
  have o74 : M72[([] : Mem).length]? = some (.live ⟨.box, 34, 20, [(.str ([] : List UInt8) :: (.bool false :: (.nils :: ((arC (cI .i8) 0 (Ar.rep 16 0)) ++ ((.nils :: []) : List AV)))))]⟩) := push_at hM73 0 rfl
  refine kw (stO rfl rfl o74 rfl rfl ⟨rfl, ble rfl⟩ rfl rfl) fun M75 hM76 => ?_
  have o77 : M75[([] : Mem).length]? = some (.live ⟨.box, 34, 20, [(.str ([] : List UInt8) :: (.bool false :: (.nils :: ((arC (cI .i8) 0 r69) ++ ((.nils :: []) : List AV)))))]⟩) := set_same hM76 o74
  obtain ⟨⟨r86, r87, r88, r89, r90⟩, hx85, h⟩ := bind_some h
  refine kx (mvO rfl) (Rn (hA h51 (hA h52 (hA h53 (hV (.loc ([] : Mem).length 1 0 0) rfl (hN rfl hZ))))) fun e78 h80 h81 h82 h83 h84 => sN (sq (Rg (kx (ldPA h81 rfl rfl) (Ev.nxcp (Ev.callT (v := .agg (.str r86 :: (.bool r87 :: (.sl (some 107) (r88.map Notch.c) :: ((arC (cI .i8) 0 r89) ++ ((.sl (some 39) (r90.map Mark.c) :: []) : List AV)))))) rfl (cns rfl rfl) rfl (laws_toChain_ok a1 _ hx85) (th_gen (v' := .agg (.str r86 :: (.bool r87 :: (.lsl M75.length r88.length 0 r88.length :: ((arC (cI .i8) 0 r89) ++ ((.lsl (M75.length + 1) r90.length 0 r90.length :: []) : List AV)))))) (l := [⟨.grow, 107, 2, r88.map Notch.c⟩, ⟨.grow, 39, 2, r90.map Mark.c⟩]) (own_agg (oa1 rfl (oa1 rfl (oa1 (own1_row' (c := Notch.c) Notch.flF) (oaA (fun _ => own1_flat) (fun _ => rfl) (oa1 (own1_row' (c := Mark.c) Mark.flF) oa0)))))) (by simp [thaw, thaw2, thaw1, thawL, co107, co39, thA (c := (cI .i8)) (fun _ => rfl), thA0 (c := (cI .i8)) (fun _ => rfl)]) rfl rfl)) fun M93 hM94 => ?_)))))
  clear h51 h52 h53 h54
  have o95 := push_old hM94 o77
  have ne96 : ([] : Mem).length ≠ M75.length := by have := lt_of_get (M := M75) o77; omega
  have o97 : M93[M75.length]? = some (.live ⟨.grow, 107, 2, r88.map Notch.c⟩) := push_at hM94 0 rfl
  have ne98 : ([] : Mem).length ≠ (M75.length + 1) := by have := lt_of_get (M := M75) o77; omega
  have ne99 : M75.length ≠ (M75.length + 1) := by omega
  have o100 : M93[(M75.length + 1)]? = some (.live ⟨.grow, 39, 2, r90.map Mark.c⟩) := push_at hM94 1 rfl
  refine ku (alO zero34) fun M102 hM103 => ?_
  have o104 := push_old hM103 o95
  have ne105 := ne_new o95
  have o106 := push_old hM103 o97
  have ne107 := ne_new o97
  have o108 := push_old hM103 o100
  have ne109 := ne_new o100
  have o110 : M102[M93.length]? = some (.live ⟨.box, 34, 20, [(.str ([] : List UInt8) :: (.bool false :: (.nils :: ((arC (cI .i8) 0 (Ar.rep 16 0)) ++ ((.nils :: []) : List AV)))))]⟩) := push_new hM103
  refine kw (stO rfl rfl o110 rfl rfl ⟨rfl, ble rfl⟩ (all1 rfl (all1 rfl (all1 (okL o106 (by simp)) (oaS (rest := [.lsl (M75.length + 1) r90.length 0 r90.length]) (fun _ => rfl) (all1 (okL o108 (by simp)) all0))))) rfl) fun M111 hM112 => ?_
  have o113 := set_ne hM112 ne105 o104
  have o114 := set_ne hM112 ne107 o106
  have o115 := set_ne hM112 ne109 o108
  have o116 : M111[M93.length]? = some (.live ⟨.box, 34, 20, [(.str r86 :: (.bool r87 :: (.lsl M75.length r88.length 0 r88.length :: ((arC (cI .i8) 0 r89) ++ ((.lsl (M75.length + 1) r90.length 0 r90.length :: []) : List AV)))))]⟩) := set_same hM112 o110
  obtain ⟨⟨r126, r127⟩, hx125, h⟩ := bind_some h
  obtain ⟨q1063, hx128, h⟩ := bind_some h
  refine Rn (hA h80 (hA h81 (hA h82 (hA h83 (hA h84 (hV (.loc M93.length 1 0 0) rfl hZ)))))) fun e117 h119 h120 h121 h122 h123 h124 => sN (sq (Rd (kf (ldOA (cs' := (.str r86 :: (.bool r87 :: (.lsl M75.length r88.length 0 r88.length :: ((arC (cI .i8) 0 r89) ++ ((.lsl (M75.length + 1) r90.length 0 r90.length :: []) : List AV)))))) h124 o116 rfl rfl (ble rfl) rfl) (kf (ldPA h121 rfl rfl) (fc (cl (v := .agg [.str r126, .int .u32 r127]) rfl (cns rfl rfl) rfl (laws_toParty_ok a2 _ hx125) nm) (kf (mvO h119) ?_))))))
  clear h80 h81 h82 h83 h84
  rcases q1063 with ⟨r129, r130⟩ | ⟨r571, r572, r573, r574, r575⟩
  ·refine Ev.nfcpE (Ev.callT (v := .tup [.agg (.str ([] : List UInt8) :: (.bool false :: (.nils :: ((arC (cI .i8) 0 r129) ++ ((.nils :: []) : List AV))))), .int .i64 r130]) rfl (cns rfl (cns rfl (cns rfl rfl))) (ra1 (ra_agg (mp1 rfl (mp1 rfl (mp1 (ra1_row o114 rfl Notch.fl) (mpA (fun _ => rArg1_flat) (fun _ => rfl) (mp1 (ra1_row o115 rfl Mark.fl) mp0)))))) (ra1 rfl (ra1 rfl ra0))) (impl_PassOn_ok (Chain.mk r86 (Half.mk r87 r88 r89) r90) (Party.mk r126 r127) a3 _ hx128) (th_gen (v' := .tup [.agg (.str ([] : List UInt8) :: (.bool false :: (.nils :: ((arC (cI .i8) 0 r129) ++ ((.nils :: []) : List AV))))), .int .i64 r130]) (l := []) (own_tup (oa1 (own2_agg (oa1 rfl (oa1 rfl (oa1 rfl (oaA (fun _ => own1_flat) (fun _ => rfl) (oa1 rfl oa0)))))) (oa1 rfl oa0))) (by simp [thaw, thaw2, thaw1, thawL, thA (c := (cI .i8)) (fun _ => rfl), thA0 (c := (cI .i8)) (fun _ => rfl)]) rfl rfl)) (kf (mvO rfl) (kf (exT rfl rfl) (kf (exT rfl rfl) (Ev.nfpushE (alO zero34) (Ev.fend1 fun M132 hM133 => ?_)))))
   have hM133 := fendM hM133 [⟨.box, 34, 20, [(.str ([] : List UInt8) :: (.bool false :: (.nils :: ((arC (cI .i8) 0 (Ar.rep 16 0)) ++ ((.nils :: []) : List AV)))))]⟩] rfl
   have o134 := push_old hM133 o113
   have o135 := push_old hM133 o114
   have o136 := push_old hM133 o115
   have o137 := push_old hM133 o116
   have ne138 : ([] : Mem).length ≠ M111.length := by have := lt_of_get (M := M111) o113; omega
   have ne139 : M75.length ≠ M111.length := by have := lt_of_get (M := M111) o114; omega
   have ne140 : (M75.length + 1) ≠ M111.length := by have := lt_of_get (M := M111) o115; omega
   have ne141 : M93.length ≠ M111.length := by have := lt_of_get (M := M111) o116; omega
   have o142 : M132[M111.length]? = some (.live ⟨.box, 34, 20, [(.str ([] : List UInt8) :: (.bool false :: (.nils :: ((arC (cI .i8) 0 (Ar.rep 16 0)) ++ ((.nils :: []) : List AV)))))]⟩) := push_at hM133 0 rfl
   refine kw (stO rfl rfl o142 rfl rfl ⟨rfl, ble rfl⟩ rfl rfl) fun M143 hM144 => ?_
   have o145 := set_ne hM144 ne138 o134
   have o146 := set_ne hM144 ne139 o135
   have o147 := set_ne hM144 ne140 o136
   have o148 := set_ne hM144 ne141 o137
   have o149 : M143[M111.length]? = some (.live ⟨.box, 34, 20, [(.str ([] : List UInt8) :: (.bool false :: (.nils :: ((arC (cI .i8) 0 r129) ++ ((.nils :: []) : List AV)))))]⟩) := set_same hM144 o142
   obtain ⟨r569, hr570, h⟩ := bind_some h
   refine kx (mvO rfl) (Rn (hA h119 (hA h120 (hA h121 (hA h122 (hA h123 (hA h124 (hV (.loc M111.length 1 0 0) rfl (hN rfl hZ)))))))) fun e150 h152 h153 h154 h155 h156 h157 h158 h159 => sN (sq (sq ?_)))
   clear h119 h120 h121 h122 h123 h124
   refine Ev.cut (Q1 := laws_FnExactPassOn_c1_Q a1 a2 a3 r69 r70 r86 r87 r88 r89 r90 r129 r130 (([] : Mem).length) M75.length (M75.length + 1) M93.length M111.length r569) (by
       have h := hr570
       obtain ⟨r161, hx160, h⟩ := bind_some h
       refine Rg (kx (ldOA (cs' := (.str ([] : List UInt8) :: (.bool false :: (.nils :: ((arC (cI .i8) 0 r129) ++ ((.nils :: []) : List AV)))))) h158 o149 rfl rfl (ble rfl) rfl) (kx (ldOA (cs' := (.str ([] : List UInt8) :: (.bool false :: (.nils :: ((arC (cI .i8) 0 r69) ++ ((.nils :: []) : List AV)))))) h155 o145 rfl rfl (ble rfl) rfl) (kc (cl (v := .bool r161) rfl (cns rfl (cns rfl rfl)) rfl (laws_eqChain_ok (Chain.mk ([] : List UInt8) (Half.mk false ([] : List Notch) r129) ([] : List Mark)) (Chain.mk ([] : List UInt8) (Half.mk false ([] : List Notch) r69) ([] : List Mark)) _ hx160) nm) (kx (uNot rfl) (kx (mvO rfl) ?_)))))
       rcases ite_some h with ⟨hb162, h⟩ | ⟨hb162, h⟩
       ·refine kx (guF rfl (congrArg Bool.not hb162) (mvO h159)) (kx (guF rfl (congrArg Bool.not hb162) (mvO h156)) (kx (guF rfl (congrArg Bool.not hb162) (bNeq rfl rfl)) (kx (pkF rfl (congrArg Bool.not hb162) rfl) (Rn (hA h152 (hA h153 (hA h154 (hA h155 (hA h156 (hA h157 (hA h158 (hA h159 (hN rfl hZ))))))))) fun e163 h165 h166 h167 h168 h169 h170 h171 h172 h173 => ?_))))
        clear h152 h153 h154 h155 h156 h157 h158 h159
        obtain rfl := si h
        exact kd (show laws_FnExactPassOn_c1_Q a1 a2 a3 r69 r70 r86 r87 r88 r89 r90 r129 r130 (([] : Mem).length) M75.length (M75.length + 1) M93.length M111.length _ _ from ⟨rfl, h165, h166, h167, h168, h169, h170, h171, h172, h173, o148, o149, o145, o146, o147⟩)
       refine kx (gsF rfl (congrArg Bool.not hb162)) (kx (gsF rfl (congrArg Bool.not hb162)) (kx (gsF rfl (congrArg Bool.not hb162)) (kx (pkT rfl (congrArg Bool.not hb162) rfl) (Rn (hA h152 (hA h153 (hA h154 (hA h155 (hA h156 (hA h157 (hA h158 (hA h159 (hV (.bool true) rfl hZ))))))))) fun e174 h176 h177 h178 h179 h180 h181 h182 h183 h184 => ?_))))
       clear h152 h153 h154 h155 h156 h157 h158 h159
       obtain rfl := si h
       exact kd (show laws_FnExactPassOn_c1_Q a1 a2 a3 r69 r70 r86 r87 r88 r89 r90 r129 r130 (([] : Mem).length) M75.length (M75.length + 1) M93.length M111.length _ _ from ⟨rfl, h176, h177, h178, h179, h180, h181, h182, h183, h184, o148, o149, o145, o146, o147⟩)) ?_
   revert h hr570
   revert r569
   intro y187 hr570 h
   intro x e185 M186 hq568
   obtain ⟨rfl, h188, h189, h190, h191, h192, h193, h194, h195, h196, o197, o198, o199, o200, o201⟩ := hq568
   refine sN ?_
   rcases ite_some h with ⟨hb202, h⟩ | ⟨hb202, h⟩
   ·refine cT h196 hb202 (sq (Rg (kx (mvO rfl) (Rn (hV (.bool false) rfl hZ) fun e203 h205 => sN (xx (sR ?_))))))
    clear h188 h189 h190 h191 h192 h193 h194 h195 h196
    obtain rfl := si h
    exact eR (resT h205 res0) rfl
   obtain ⟨⟨r207, r208, r209, r210, r211⟩, hx206, h⟩ := bind_some h
   obtain ⟨r213, hx212, h⟩ := bind_some h
   refine cF h196 hb202 (xx (sN (sq (sq (Rd (kf (ldOA (cs' := (.str r86 :: (.bool r87 :: (.lsl M75.length r88.length 0 r88.length :: ((arC (cI .i8) 0 r89) ++ ((.lsl (M75.length + 1) r90.length 0 r90.length :: []) : List AV)))))) h193 o197 rfl rfl (ble rfl) rfl) (kf (ldPA h189 rfl rfl) (fc (cl (v := .agg (.str r207 :: (.bool r208 :: (.sl (some 107) (r209.map Notch.c) :: ((arC (cI .i8) 0 r210) ++ ((.sl (some 39) (r211.map Mark.c) :: []) : List AV)))))) rfl (cns rfl rfl) rfl (laws_toChain_ok a1 _ hx206) nm) (fc (cl (v := .bool r213) rfl (cns rfl (cns rfl rfl)) (ra1 (ra_agg (mp1 rfl (mp1 rfl (mp1 (ra1_row o200 rfl Notch.fl) (mpA (fun _ => rArg1_flat) (fun _ => rfl) (mp1 (ra1_row o201 rfl Mark.fl) mp0)))))) (ra1 rfl ra0)) (laws_eqChain_ok (Chain.mk r86 (Half.mk r87 r88 r89) r90) (Chain.mk r207 (Half.mk r208 r209 r210) r211) _ hx212) (fun _ => rfl)) (kf (uNot rfl) (fZ (Rn (hV (.str a3) h188 (hV (.pt none (.str a1.Debtor :: (.bool a1.Stock.Stock :: (.sl none (a1.Stock.Notches.map Notch.c) :: ((arC (cI .i8) 0 a1.Stock.Grain) ++ ((.sl none (a1.Marks.map Mark.c) :: []) : List AV)))))) h189 (hV (.pt none [.str a2.Name, .int .u32 a2.Secret]) h190 (hV (.loc ([] : Mem).length 1 0 0) h191 (hV (.int .i64 r70) h192 (hV (.loc M93.length 1 0 0) h193 (hV (.loc M111.length 1 0 0) h194 (hV (.int .i64 r130) h195 (hN rfl hZ))))))))) fun e214 h216 h217 h218 h219 h220 h221 h222 h223 h224 => sN ?_))))))))))))
   clear h188 h189 h190 h191 h192 h193 h194 h195 h196
   rcases ite_some h with ⟨hb225, h⟩ | ⟨hb225, h⟩
   ·obtain ⟨⟨r238, r239, r240⟩, hx237, h⟩ := bind_some h
    refine cF h224 (congrArg Bool.not hb225) (xx (sN (sq (Rg (kx (mvO rfl) (Rn (hA h216 (hA h217 (hA h218 (hA h219 (hA h220 (hA h221 (hA h222 (hA h223 (hV (.int .i64 1) rfl hZ))))))))) fun e226 h228 h229 h230 h231 h232 h233 h234 h235 h236 => sN (sq (Rg (kx (ldOA (cs' := (.str r86 :: (.bool r87 :: (.lsl M75.length r88.length 0 r88.length :: ((arC (cI .i8) 0 r89) ++ ((.lsl (M75.length + 1) r90.length 0 r90.length :: []) : List AV)))))) h233 o197 rfl rfl (ble rfl) rfl) (kx (mvO h236) (Ev.nxw (Ev.callW rfl (cns rfl (cns rfl rfl)) (laws_markChain_ll_ok r86 r87 r88 r89 r90 1 M75.length (M75.length + 1) ne99 M186 o200 o201 _ hx237)) fun v243 M241 hq242 => ?_)))))))))))
    clear h216 h217 h218 h219 h220 h221 h222 h223 h224
    obtain ⟨hv243, o244, o245, fr246, hl247, hl248⟩ := hq242
    have hv243 : v243 = .int .i64 r238 := hv243
    subst hv243
    have o249 : M241[M75.length]? = some (.live ⟨.grow, 107, 2, r239.map Notch.c⟩) := o244
    have o250 : M241[(M75.length + 1)]? = some (.live ⟨.grow, 39, 2, r240.map Mark.c⟩) := o245
    have hl247 : r239.length = r88.length := hl247
    have hl248 : r240.length = r90.length := hl248
    have o251 : M241[M93.length]? = some (.live ⟨.box, 34, 20, [(.str r86 :: (.bool r87 :: (.lsl M75.length r88.length 0 r88.length :: ((arC (cI .i8) 0 r89) ++ ((.lsl (M75.length + 1) r90.length 0 r90.length :: []) : List AV)))))]⟩) := fr246 _ _ (niC (Ne.symm ne107) (niC (Ne.symm ne109) niN)) o197
    have o252 : M241[M111.length]? = some (.live ⟨.box, 34, 20, [(.str ([] : List UInt8) :: (.bool false :: (.nils :: ((arC (cI .i8) 0 r129) ++ ((.nils :: []) : List AV)))))]⟩) := fr246 _ _ (niC (Ne.symm ne139) (niC (Ne.symm ne140) niN)) o198
    have o253 : M241[([] : Mem).length]? = some (.live ⟨.box, 34, 20, [(.str ([] : List UInt8) :: (.bool false :: (.nils :: ((arC (cI .i8) 0 r69) ++ ((.nils :: []) : List AV)))))]⟩) := fr246 _ _ (niC ne96 (niC ne98 niN)) o199
    obtain ⟨r563, hr564, h⟩ := bind_some h
    refine kx (mvO rfl) (Rn (hA h228 (hA h229 (hA h230 (hA h231 (hA h232 (hA h234 (hA h235 (hN rfl hZ)))))))) fun e254 h256 h257 h258 h259 h260 h261 h262 h263 => sN (sq (sq ?_)))
    clear h228 h229 h230 h231 h232 h233 h234 h235
    refine Ev.cut (Q1 := laws_FnExactPassOn_c2_Q a1 a2 a3 r69 r70 r129 M111.length (([] : Mem).length) r563) (by
        have h := hr564
        refine Rg (kx (mvO h263) (kx (bLss rfl rfl) (kx (mvO rfl) ?_)))
        rcases ite_some h with ⟨hb264, h⟩ | ⟨hb264, h⟩
        ·refine kx (gsF rfl hb264) (kx (gsF rfl hb264) (kc (Ev.gsF rfl hb264) (kx (gsF rfl hb264) (kx (pkT rfl hb264 rfl) (kx (mvO rfl) (kx (gsF rfl rfl) (kx (gsF rfl rfl) (kx (gsF rfl rfl) (kx (pkT rfl rfl rfl) (Rn (hA h256 (hA h257 (hA h258 (hA h259 (hA h260 (hA h261 (hV (.bool true) rfl hZ))))))) fun e265 h267 h268 h269 h270 h271 h272 h273 => ?_))))))))))
         clear h256 h257 h258 h259 h260 h261 h262 h263
         obtain rfl := si h
         exact kd (show laws_FnExactPassOn_c2_Q a1 a2 a3 r69 r70 r129 M111.length (([] : Mem).length) _ _ from ⟨rfl, h267, h268, h269, h270, h271, h272, h273, o252, o253⟩)
        obtain ⟨r275, hx274, h⟩ := bind_some h
        refine kx (guF rfl hb264 (ldOA (cs' := (.str ([] : List UInt8) :: (.bool false :: (.nils :: ((arC (cI .i8) 0 r129) ++ ((.nils :: []) : List AV)))))) h261 o252 rfl rfl (ble rfl) rfl)) (kx (guF rfl hb264 (ldOA (cs' := (.str ([] : List UInt8) :: (.bool false :: (.nils :: ((arC (cI .i8) 0 r69) ++ ((.nils :: []) : List AV)))))) h259 o253 rfl rfl (ble rfl) rfl)) (kc (Ev.guF rfl hb264 (cl (v := .bool r275) rfl (cns rfl (cns rfl rfl)) rfl (laws_eqChain_ok (Chain.mk ([] : List UInt8) (Half.mk false ([] : List Notch) r129) ([] : List Mark)) (Chain.mk ([] : List UInt8) (Half.mk false ([] : List Notch) r69) ([] : List Mark)) _ hx274) nm)) (kx (guF rfl hb264 (uNot rfl)) (kx (pkF rfl hb264 rfl) (kx (mvO rfl) ?_)))))
        rcases ite_some h with ⟨hb276, h⟩ | ⟨hb276, h⟩
        ·refine kx (guF rfl (congrArg Bool.not hb276) (mvO h262)) (kx (guF rfl (congrArg Bool.not hb276) (mvO h260)) (kx (guF rfl (congrArg Bool.not hb276) (bNeq rfl rfl)) (kx (pkF rfl (congrArg Bool.not hb276) rfl) (Rn (hA h256 (hA h257 (hA h258 (hA h259 (hA h260 (hA h261 (hN rfl hZ))))))) fun e277 h279 h280 h281 h282 h283 h284 h285 => ?_))))
         clear h256 h257 h258 h259 h260 h261 h262 h263
         obtain rfl := si h
         exact kd (show laws_FnExactPassOn_c2_Q a1 a2 a3 r69 r70 r129 M111.length (([] : Mem).length) _ _ from ⟨rfl, h279, h280, h281, h282, h283, h284, h285, o252, o253⟩)
        refine kx (gsF rfl (congrArg Bool.not hb276)) (kx (gsF rfl (congrArg Bool.not hb276)) (kx (gsF rfl (congrArg Bool.not hb276)) (kx (pkT rfl (congrArg Bool.not hb276) rfl) (Rn (hA h256 (hA h257 (hA h258 (hA h259 (hA h260 (hA h261 (hV (.bool true) rfl hZ))))))) fun e286 h288 h289 h290 h291 h292 h293 h294 => ?_))))
        clear h256 h257 h258 h259 h260 h261 h262 h263
        obtain rfl := si h
        exact kd (show laws_FnExactPassOn_c2_Q a1 a2 a3 r69 r70 r129 M111.length (([] : Mem).length) _ _ from ⟨rfl, h288, h289, h290, h291, h292, h293, h294, o252, o253⟩)) ?_
    revert h hr564
    revert r563
    intro y297 hr564 h
    intro x e295 M296 hq562
    obtain ⟨rfl, h298, h299, h300, h301, h302, h303, h304, o305, o306⟩ := hq562
    refine sN ?_
    rcases ite_some h with ⟨hb307, h⟩ | ⟨hb307, h⟩
    ·refine cT h304 hb307 (sq (Rg (kx (mvO rfl) (Rn (hV (.bool false) rfl hZ) fun e308 h310 => sN (xx (sR ?_))))))
     clear h298 h299 h300 h301 h302 h303 h304
     obtain rfl := si h
     exact eR (resT h310 res0) rfl
    obtain ⟨r321, hx320, h⟩ := bind_some h
    refine cF h304 hb307 (xx (sN (sq (Rg (kx (mvO rfl) (Rn (hV (.str a3) h298 (hV (.pt none (.str a1.Debtor :: (.bool a1.Stock.Stock :: (.sl none (a1.Stock.Notches.map Notch.c) :: ((arC (cI .i8) 0 a1.Stock.Grain) ++ ((.sl none (a1.Marks.map Mark.c) :: []) : List AV)))))) h299 (hV (.pt none [.str a2.Name, .int .u32 a2.Secret]) h300 (hV (.loc ([] : Mem).length 1 0 0) h301 (hV (.int .i64 r70) h302 (hV (.loc M111.length 1 0 0) h303 (hV (.int .i64 1) rfl hZ))))))) fun e311 h313 h314 h315 h316 h317 h318 h319 => sN (sq (Rg (kx (ldOA (cs' := (.str ([] : List UInt8) :: (.bool false :: (.nils :: ((arC (cI .i8) 0 r129) ++ ((.nils :: []) : List AV)))))) h318 o305 rfl rfl (ble rfl) rfl) (kx (mvO h319) (Ev.nxw (Ev.callW rfl (cns rfl (cns rfl rfl)) (laws_markChain_nn_ok ([] : List UInt8) false r129 1 M296 _ hx320)) fun v324 M322 hq323 => ?_)))))))))))
    clear h298 h299 h300 h301 h302 h303 h304
    obtain ⟨hv324, fr325⟩ := hq323
    have hv324 : v324 = .int .i64 r321 := hv324
    subst hv324
    have o326 : M322[M111.length]? = some (.live ⟨.box, 34, 20, [(.str ([] : List UInt8) :: (.bool false :: (.nils :: ((arC (cI .i8) 0 r129) ++ ((.nils :: []) : List AV)))))]⟩) := fr325 _ _ niN o305
    have o327 : M322[([] : Mem).length]? = some (.live ⟨.box, 34, 20, [(.str ([] : List UInt8) :: (.bool false :: (.nils :: ((arC (cI .i8) 0 r69) ++ ((.nils :: []) : List AV)))))]⟩) := fr325 _ _ niN o306
    obtain ⟨r348, hx347, h⟩ := bind_some h
    refine kx (mvO rfl) (Rn (hA h313 (hA h314 (hA h315 (hA h316 (hA h317 (hA h318 (hN rfl hZ))))))) fun e328 h330 h331 h332 h333 h334 h335 h336 => sN (sq (Rg (kx (mvO rfl) (Rn (hA h330 (hA h331 (hA h332 (hA h333 (hA h334 (hA h335 (hA h336 (hV (.int .i64 1) rfl hZ)))))))) fun e337 h339 h340 h341 h342 h343 h344 h345 h346 => sN (sq (Rg (kx (ldOA (cs' := (.str ([] : List UInt8) :: (.bool false :: (.nils :: ((arC (cI .i8) 0 r129) ++ ((.nils :: []) : List AV)))))) h344 o326 rfl rfl (ble rfl) rfl) (kx (mvO h346) (kc (cl (v := .int .i64 r348) rfl (cns rfl (cns rfl rfl)) rfl (laws_heldChain_ok (Chain.mk ([] : List UInt8) (Half.mk false ([] : List Notch) r129) ([] : List Mark)) 1 _ hx347) nm) (kx (mvO rfl) (Rn (hA h339 (hA h340 (hA h341 (hA h342 (hA h343 (hA h344 (hA h345 (hN rfl hZ)))))))) fun e349 h351 h352 h353 h354 h355 h356 h357 h358 => sN (sq (sq (Rg (kx (mvO h358) (kx (bLss rfl rfl) (Rn (hA h351 (hA h352 (hA h353 (hA h354 (hA h355 (hA h356 (hA h357 (hA h358 (hN rfl hZ))))))))) fun e359 h361 h362 h363 h364 h365 h366 h367 h368 h369 => sN ?_))))))))))))))))))
    clear h313 h314 h315 h316 h317 h318 h330 h331 h332 h333 h334 h335 h336 h339 h340 h341 h342 h343 h344 h345 h351 h352 h353 h354 h355 h356 h357 h358
    rcases ite_some h with ⟨hb370, h⟩ | ⟨hb370, h⟩
    ·refine cT h369 hb370 (sq (Rg (kx (mvO rfl) (Rn (hV (.bool false) rfl hZ) fun e371 h373 => sN (xx (sR ?_))))))
     clear h361 h362 h363 h364 h365 h366 h367 h368 h369
     obtain rfl := si h
     exact eR (resT h373 res0) rfl
    refine cF h369 hb370 (xx (sN (sq (sq (Rg (kx (mvO h368) (kx (mvO h367) (kx (bNeq rfl rfl) (Rn (hA h361 (hA h362 (hA h363 (hA h364 (hA h365 (hA h366 (hA h367 (hN rfl hZ)))))))) fun e374 h376 h377 h378 h379 h380 h381 h382 h383 => sN ?_)))))))))
    clear h361 h362 h363 h364 h365 h366 h367 h368 h369
    rcases ite_some h with ⟨hb384, h⟩ | ⟨hb384, h⟩
    ·refine cT h383 hb384 (sq (Rg (kx (mvO rfl) (Rn (hV (.bool false) rfl hZ) fun e385 h387 => sN (xx (sR ?_))))))
     clear h376 h377 h378 h379 h380 h381 h382 h383
     obtain rfl := si h
     exact eR (resT h387 res0) rfl
    obtain ⟨⟨r389, r390, r391, r392, r393⟩, hx388, h⟩ := bind_some h
    obtain ⟨⟨r395, r396⟩, hx394, h⟩ := bind_some h
    obtain ⟨q561, hx397, h⟩ := bind_some h
    refine cF h383 hb384 (xx (sN (sq (Rd (kf (ldPA h377 rfl rfl) (fc (cl (v := .agg (.str r389 :: (.bool r390 :: (.sl (some 107) (r391.map Notch.c) :: ((arC (cI .i8) 0 r392) ++ ((.sl (some 39) (r393.map Mark.c) :: []) : List AV)))))) rfl (cns rfl rfl) rfl (laws_toChain_ok a1 _ hx388) nm) (kf (ldPA h378 rfl rfl) (fc (cl (v := .agg [.str r395, .int .u32 r396]) rfl (cns rfl rfl) rfl (laws_toParty_ok a2 _ hx394) nm) (kf (mvO h376) ?_)))))))))
    rcases q561 with ⟨r398, r399⟩ | ⟨r478, r479, r480, r481, r482⟩
    ·refine fc (cl (v := .tup [.agg (.str ([] : List UInt8) :: (.bool false :: (.nils :: ((arC (cI .i8) 0 r398) ++ ((.nils :: []) : List AV))))), .int .i64 r399]) rfl (cns rfl (cns rfl (cns rfl rfl))) rfl (impl_PassOn_ok (Chain.mk r389 (Half.mk r390 r391 r392) r393) (Party.mk r395 r396) a3 _ hx397) nm) (kf (mvO rfl) (kf (exT rfl rfl) (kf (exT rfl rfl) (Ev.nfpushE (alO zero34) (Ev.fend1 fun M401 hM402 => ?_)))))
     have hM402 := fendM hM402 [⟨.box, 34, 20, [(.str ([] : List UInt8) :: (.bool false :: (.nils :: ((arC (cI .i8) 0 (Ar.rep 16 0)) ++ ((.nils :: []) : List AV)))))]⟩] rfl
     have o403 := push_old hM402 o326
     have o404 := push_old hM402 o327
     have ne405 : M111.length ≠ M322.length := by have := lt_of_get (M := M322) o326; omega
     have ne406 : ([] : Mem).length ≠ M322.length := by have := lt_of_get (M := M322) o327; omega
     have o407 : M401[M322.length]? = some (.live ⟨.box, 34, 20, [(.str ([] : List UInt8) :: (.bool false :: (.nils :: ((arC (cI .i8) 0 (Ar.rep 16 0)) ++ ((.nils :: []) : List AV)))))]⟩) := push_at hM402 0 rfl
     refine kw (stO rfl rfl o407 rfl rfl ⟨rfl, ble rfl⟩ rfl rfl) fun M408 hM409 => ?_
     have o410 := set_ne hM409 ne405 o403
     have o411 := set_ne hM409 ne406 o404
     have o412 : M408[M322.length]? = some (.live ⟨.box, 34, 20, [(.str ([] : List UInt8) :: (.bool false :: (.nils :: ((arC (cI .i8) 0 r398) ++ ((.nils :: []) : List AV)))))]⟩) := set_same hM409 o407
     obtain ⟨r476, hr477, h⟩ := bind_some h
     refine kx (mvO rfl) (Rn (hA h379 (hA h380 (hA h381 (hA h382 (hV (.loc M322.length 1 0 0) rfl (hN rfl hZ)))))) fun e413 h415 h416 h417 h418 h419 h420 => sN (sq (sq ?_)))
     clear h376 h377 h378 h379 h380 h381 h382 h383
     refine Ev.cut (Q1 := laws_FnExactPassOn_c3_Q r129 r321 M111.length (([] : Mem).length) M322.length r476) (by
         have h := hr477
         obtain ⟨r422, hx421, h⟩ := bind_some h
         refine Rg (kx (ldOA (cs' := (.str ([] : List UInt8) :: (.bool false :: (.nils :: ((arC (cI .i8) 0 r398) ++ ((.nils :: []) : List AV)))))) h419 o412 rfl rfl (ble rfl) rfl) (kx (ldOA (cs' := (.str ([] : List UInt8) :: (.bool false :: (.nils :: ((arC (cI .i8) 0 r69) ++ ((.nils :: []) : List AV)))))) h415 o411 rfl rfl (ble rfl) rfl) (kc (cl (v := .bool r422) rfl (cns rfl (cns rfl rfl)) rfl (laws_eqChain_ok (Chain.mk ([] : List UInt8) (Half.mk false ([] : List Notch) r398) ([] : List Mark)) (Chain.mk ([] : List UInt8) (Half.mk false ([] : List Notch) r69) ([] : List Mark)) _ hx421) nm) (kx (uNot rfl) (kx (mvO rfl) ?_)))))
         rcases ite_some h with ⟨hb423, h⟩ | ⟨hb423, h⟩
         ·refine kx (guF rfl (congrArg Bool.not hb423) (mvO h420)) (kx (guF rfl (congrArg Bool.not hb423) (mvO h416)) (kx (guF rfl (congrArg Bool.not hb423) (bNeq rfl rfl)) (kx (pkF rfl (congrArg Bool.not hb423) rfl) (Rn (hA h417 (hA h418 (hN rfl hZ))) fun e424 h426 h427 h428 => ?_))))
          clear h415 h416 h417 h418 h419 h420
          obtain rfl := si h
          exact kd (show laws_FnExactPassOn_c3_Q r129 r321 M111.length (([] : Mem).length) M322.length _ _ from ⟨rfl, h426, h427, h428, o410⟩)
         refine kx (gsF rfl (congrArg Bool.not hb423)) (kx (gsF rfl (congrArg Bool.not hb423)) (kx (gsF rfl (congrArg Bool.not hb423)) (kx (pkT rfl (congrArg Bool.not hb423) rfl) (Rn (hA h417 (hA h418 (hV (.bool true) rfl hZ))) fun e429 h431 h432 h433 => ?_))))
         clear h415 h416 h417 h418 h419 h420
         obtain rfl := si h
         exact kd (show laws_FnExactPassOn_c3_Q r129 r321 M111.length (([] : Mem).length) M322.length _ _ from ⟨rfl, h431, h432, h433, o410⟩)) ?_
     revert h hr477
     revert r476
     intro y436 hr477 h
     intro x e434 M435 hq475
     obtain ⟨rfl, h437, h438, h439, o440⟩ := hq475
     refine sN ?_
     rcases ite_some h with ⟨hb441, h⟩ | ⟨hb441, h⟩
     ·refine cT h439 hb441 (sq (Rg (kx (mvO rfl) (Rn (hV (.bool false) rfl hZ) fun e442 h444 => sN (xx (sR ?_))))))
      clear h437 h438 h439
      obtain rfl := si h
      exact eR (resT h444 res0) rfl
     obtain ⟨r451, hx450, h⟩ := bind_some h
     refine cF h439 hb441 (xx (sN (sq (Rg (kx (mvO rfl) (Rn (hV (.loc M111.length 1 0 0) h437 (hV (.int .i64 r321) h438 (hV (.int .i64 1) rfl hZ))) fun e445 h447 h448 h449 => sN (sq (Rg (kx (ldOA (cs' := (.str ([] : List UInt8) :: (.bool false :: (.nils :: ((arC (cI .i8) 0 r129) ++ ((.nils :: []) : List AV)))))) h447 o440 rfl rfl (ble rfl) rfl) (kx (mvO h449) (kc (cl (v := .int .i64 r451) rfl (cns rfl (cns rfl rfl)) rfl (laws_heldChain_ok (Chain.mk ([] : List UInt8) (Half.mk false ([] : List Notch) r129) ([] : List Mark)) 1 _ hx450) nm) (kx (mvO rfl) (Rn (hA h448 (hN rfl hZ)) fun e452 h454 h455 => sN (sq (sq (Rg (kx (mvO h455) (kx (bLss rfl rfl) (Rn (hA h454 (hA h455 (hN rfl hZ))) fun e456 h458 h459 h460 => sN ?_)))))))))))))))))))
     clear h437 h438 h439 h447 h448 h454 h455
     rcases ite_some h with ⟨hb461, h⟩ | ⟨hb461, h⟩
     ·refine cT h460 hb461 (sq (Rg (kx (mvO rfl) (Rn (hV (.bool false) rfl hZ) fun e462 h464 => sN (xx (sR ?_))))))
      clear h458 h459 h460
      obtain rfl := si h
      exact eR (resT h464 res0) rfl
     refine cF h460 hb461 (xx (sN (sq (sq (Rg (kx (mvO h459) (kx (mvO h458) (kx (bNeq rfl rfl) (Rn (hN rfl hZ) fun e465 h467 => sN ?_)))))))))
     clear h458 h459 h460
     rcases ite_some h with ⟨hb468, h⟩ | ⟨hb468, h⟩
     ·refine cT h467 hb468 (sq (Rg (kx (mvO rfl) (Rn (hV (.bool false) rfl hZ) fun e469 h471 => sN (xx (sR ?_))))))
      clear h467
      obtain rfl := si h
      exact eR (resT h471 res0) rfl
     refine cF h467 hb468 (xx (sN (sq (Rg (kx (mvO rfl) (Rn (hV (.bool true) rfl hZ) fun e472 h474 => sN (xx ?_)))))))
     clear h467
     obtain rfl := si h
     exact eR (resT h474 res0) rfl
    refine fc (cl (v := .tup [.agg (.str r478 :: (.bool r479 :: (.sl (some 107) (r480.map Notch.c) :: ((arC (cI .i8) 0 r481) ++ ((.sl (some 39) (r482.map Mark.c) :: []) : List AV))))), .int .i64 0]) rfl (cns rfl (cns rfl (cns rfl rfl))) rfl (impl_PassOn_ok (Chain.mk r389 (Half.mk r390 r391 r392) r393) (Party.mk r395 r396) a3 _ hx397) nm) (kf (mvO rfl) (kf (exT rfl rfl) (kf (exT rfl rfl) (Ev.nfpushE (alO zero34) (Ev.fend1 fun M484 hM485 => ?_)))))
    have hM485 := fendM hM485 [⟨.box, 34, 20, [(.str ([] : List UInt8) :: (.bool false :: (.nils :: ((arC (cI .i8) 0 (Ar.rep 16 0)) ++ ((.nils :: []) : List AV)))))]⟩] rfl
    have o486 := push_old hM485 o326
    have o487 := push_old hM485 o327
    have ne488 : M111.length ≠ M322.length := by have := lt_of_get (M := M322) o326; omega
    have ne489 : ([] : Mem).length ≠ M322.length := by have := lt_of_get (M := M322) o327; omega
    have o490 : M484[M322.length]? = some (.live ⟨.box, 34, 20, [(.str ([] : List UInt8) :: (.bool false :: (.nils :: ((arC (cI .i8) 0 (Ar.rep 16 0)) ++ ((.nils :: []) : List AV)))))]⟩) := push_at hM485 0 rfl
    refine kw (stO rfl rfl o490 rfl rfl ⟨rfl, ble rfl⟩ rfl rfl) fun M491 hM492 => ?_
    have o493 := set_ne hM492 ne488 o486
    have o494 := set_ne hM492 ne489 o487
    have o495 : M491[M322.length]? = some (.live ⟨.box, 34, 20, [(.str r478 :: (.bool r479 :: (.sl none (r480.map Notch.c) :: ((arC (cI .i8) 0 r481) ++ ((.sl none (r482.map Mark.c) :: []) : List AV)))))]⟩) := set_same hM492 o490
    obtain ⟨r559, hr560, h⟩ := bind_some h
    refine kx (mvO rfl) (Rn (hA h379 (hA h380 (hA h381 (hA h382 (hV (.loc M322.length 1 0 0) rfl (hV (.int .i64 0) rfl hZ)))))) fun e496 h498 h499 h500 h501 h502 h503 => sN (sq (sq ?_)))
    clear h376 h377 h378 h379 h380 h381 h382 h383
    refine Ev.cut (Q1 := laws_FnExactPassOn_c4_Q r129 r321 M111.length (([] : Mem).length) M322.length r559) (by
        have h := hr560
        obtain ⟨r505, hx504, h⟩ := bind_some h
        refine Rg (kx (ldOA (cs' := (.str r478 :: (.bool r479 :: (.sl none (r480.map Notch.c) :: ((arC (cI .i8) 0 r481) ++ ((.sl none (r482.map Mark.c) :: []) : List AV)))))) h502 o495 rfl rfl (ble rfl) rfl) (kx (ldOA (cs' := (.str ([] : List UInt8) :: (.bool false :: (.nils :: ((arC (cI .i8) 0 r69) ++ ((.nils :: []) : List AV)))))) h498 o494 rfl rfl (ble rfl) rfl) (kc (cl (v := .bool r505) rfl (cns rfl (cns rfl rfl)) rfl (laws_eqChain_ok (Chain.mk r478 (Half.mk r479 r480 r481) r482) (Chain.mk ([] : List UInt8) (Half.mk false ([] : List Notch) r69) ([] : List Mark)) _ hx504) nm) (kx (uNot rfl) (kx (mvO rfl) ?_)))))
        rcases ite_some h with ⟨hb506, h⟩ | ⟨hb506, h⟩
        ·refine kx (guF rfl (congrArg Bool.not hb506) (mvO h503)) (kx (guF rfl (congrArg Bool.not hb506) (mvO h499)) (kx (guF rfl (congrArg Bool.not hb506) (bNeq rfl rfl)) (kx (pkF rfl (congrArg Bool.not hb506) rfl) (Rn (hA h500 (hA h501 (hN rfl hZ))) fun e507 h509 h510 h511 => ?_))))
         clear h498 h499 h500 h501 h502 h503
         obtain rfl := si h
         exact kd (show laws_FnExactPassOn_c4_Q r129 r321 M111.length (([] : Mem).length) M322.length _ _ from ⟨rfl, h509, h510, h511, o493⟩)
        refine kx (gsF rfl (congrArg Bool.not hb506)) (kx (gsF rfl (congrArg Bool.not hb506)) (kx (gsF rfl (congrArg Bool.not hb506)) (kx (pkT rfl (congrArg Bool.not hb506) rfl) (Rn (hA h500 (hA h501 (hV (.bool true) rfl hZ))) fun e512 h514 h515 h516 => ?_))))
        clear h498 h499 h500 h501 h502 h503
        obtain rfl := si h
        exact kd (show laws_FnExactPassOn_c4_Q r129 r321 M111.length (([] : Mem).length) M322.length _ _ from ⟨rfl, h514, h515, h516, o493⟩)) ?_
    revert h hr560
    revert r559
    intro y519 hr560 h
    intro x e517 M518 hq558
    obtain ⟨rfl, h520, h521, h522, o523⟩ := hq558
    refine sN ?_
    rcases ite_some h with ⟨hb524, h⟩ | ⟨hb524, h⟩
    ·refine cT h522 hb524 (sq (Rg (kx (mvO rfl) (Rn (hV (.bool false) rfl hZ) fun e525 h527 => sN (xx (sR ?_))))))
     clear h520 h521 h522
     obtain rfl := si h
     exact eR (resT h527 res0) rfl
    obtain ⟨r534, hx533, h⟩ := bind_some h
    refine cF h522 hb524 (xx (sN (sq (Rg (kx (mvO rfl) (Rn (hV (.loc M111.length 1 0 0) h520 (hV (.int .i64 r321) h521 (hV (.int .i64 1) rfl hZ))) fun e528 h530 h531 h532 => sN (sq (Rg (kx (ldOA (cs' := (.str ([] : List UInt8) :: (.bool false :: (.nils :: ((arC (cI .i8) 0 r129) ++ ((.nils :: []) : List AV)))))) h530 o523 rfl rfl (ble rfl) rfl) (kx (mvO h532) (kc (cl (v := .int .i64 r534) rfl (cns rfl (cns rfl rfl)) rfl (laws_heldChain_ok (Chain.mk ([] : List UInt8) (Half.mk false ([] : List Notch) r129) ([] : List Mark)) 1 _ hx533) nm) (kx (mvO rfl) (Rn (hA h531 (hN rfl hZ)) fun e535 h537 h538 => sN (sq (sq (Rg (kx (mvO h538) (kx (bLss rfl rfl) (Rn (hA h537 (hA h538 (hN rfl hZ))) fun e539 h541 h542 h543 => sN ?_)))))))))))))))))))
    clear h520 h521 h522 h530 h531 h537 h538
    rcases ite_some h with ⟨hb544, h⟩ | ⟨hb544, h⟩
    ·refine cT h543 hb544 (sq (Rg (kx (mvO rfl) (Rn (hV (.bool false) rfl hZ) fun e545 h547 => sN (xx (sR ?_))))))
     clear h541 h542 h543
     obtain rfl := si h
     exact eR (resT h547 res0) rfl
    refine cF h543 hb544 (xx (sN (sq (sq (Rg (kx (mvO h542) (kx (mvO h541) (kx (bNeq rfl rfl) (Rn (hN rfl hZ) fun e548 h550 => sN ?_)))))))))
    clear h541 h542 h543
    rcases ite_some h with ⟨hb551, h⟩ | ⟨hb551, h⟩
    ·refine cT h550 hb551 (sq (Rg (kx (mvO rfl) (Rn (hV (.bool false) rfl hZ) fun e552 h554 => sN (xx (sR ?_))))))
     clear h550
     obtain rfl := si h
     exact eR (resT h554 res0) rfl
    refine cF h550 hb551 (xx (sN (sq (Rg (kx (mvO rfl) (Rn (hV (.bool true) rfl hZ) fun e555 h557 => sN (xx ?_)))))))
    clear h550
    obtain rfl := si h
    exact eR (resT h557 res0) rfl
   refine cT h224 (congrArg Bool.not hb225) (sq (Rg (kx (mvO rfl) (Rn (hV (.bool false) rfl hZ) fun e565 h567 => sN (xx (sR ?_))))))
   clear h216 h217 h218 h219 h220 h221 h222 h223 h224
   obtain rfl := si h
   exact eR (resT h567 res0) rfl
  refine Ev.nfcpE (Ev.callT (v := .tup [.agg (.str r571 :: (.bool r572 :: (.sl (some 107) (r573.map Notch.c) :: ((arC (cI .i8) 0 r574) ++ ((.sl (some 39) (r575.map Mark.c) :: []) : List AV))))), .int .i64 0]) rfl (cns rfl (cns rfl (cns rfl rfl))) (ra1 (ra_agg (mp1 rfl (mp1 rfl (mp1 (ra1_row o114 rfl Notch.fl) (mpA (fun _ => rArg1_flat) (fun _ => rfl) (mp1 (ra1_row o115 rfl Mark.fl) mp0)))))) (ra1 rfl (ra1 rfl ra0))) (impl_PassOn_ok (Chain.mk r86 (Half.mk r87 r88 r89) r90) (Party.mk r126 r127) a3 _ hx128) (th_gen (v' := .tup [.agg (.str r571 :: (.bool r572 :: (.lsl M111.length r573.length 0 r573.length :: ((arC (cI .i8) 0 r574) ++ ((.lsl (M111.length + 1) r575.length 0 r575.length :: []) : List AV))))), .int .i64 0]) (l := [⟨.grow, 107, 2, r573.map Notch.c⟩, ⟨.grow, 39, 2, r575.map Mark.c⟩]) (own_tup (oa1 (own2_agg (oa1 rfl (oa1 rfl (oa1 (own1_row' (c := Notch.c) Notch.flF) (oaA (fun _ => own1_flat) (fun _ => rfl) (oa1 (own1_row' (c := Mark.c) Mark.flF) oa0)))))) (oa1 rfl oa0))) (by simp [thaw, thaw2, thaw1, thawL, co107, co39, thA (c := (cI .i8)) (fun _ => rfl), thA0 (c := (cI .i8)) (fun _ => rfl)]) rfl rfl)) (kf (mvO rfl) (kf (exT rfl rfl) (kf (exT rfl rfl) (Ev.nfpushE (alO zero34) (Ev.fend1 fun M579 hM580 => ?_)))))
  have hM580 := fendM hM580 [⟨.grow, 107, 2, r573.map Notch.c⟩, ⟨.grow, 39, 2, r575.map Mark.c⟩, ⟨.box, 34, 20, [(.str ([] : List UInt8) :: (.bool false :: (.nils :: ((arC (cI .i8) 0 (Ar.rep 16 0)) ++ ((.nils :: []) : List AV)))))]⟩] rfl
  have o581 := push_old hM580 o113
  have o582 := push_old hM580 o114
  have o583 := push_old hM580 o115
  have o584 := push_old hM580 o116
  have ne585 : ([] : Mem).length ≠ M111.length := by have := lt_of_get (M := M111) o113; omega
  have ne586 : M75.length ≠ M111.length := by have := lt_of_get (M := M111) o114; omega
  have ne587 : (M75.length + 1) ≠ M111.length := by have := lt_of_get (M := M111) o115; omega
  have ne588 : M93.length ≠ M111.length := by have := lt_of_get (M := M111) o116; omega
  have o589 : M579[M111.length]? = some (.live ⟨.grow, 107, 2, r573.map Notch.c⟩) := push_at hM580 0 rfl
  have ne590 : ([] : Mem).length ≠ (M111.length + 1) := by have := lt_of_get (M := M111) o113; omega
  have ne591 : M75.length ≠ (M111.length + 1) := by have := lt_of_get (M := M111) o114; omega
  have ne592 : (M75.length + 1) ≠ (M111.length + 1) := by have := lt_of_get (M := M111) o115; omega
  have ne593 : M93.length ≠ (M111.length + 1) := by have := lt_of_get (M := M111) o116; omega
  have ne594 : M111.length ≠ (M111.length + 1) := by omega
  have o595 : M579[(M111.length + 1)]? = some (.live ⟨.grow, 39, 2, r575.map Mark.c⟩) := push_at hM580 1 rfl
  have ne596 : ([] : Mem).length ≠ (M111.length + 2) := by have := lt_of_get (M := M111) o113; omega
  have ne597 : M75.length ≠ (M111.length + 2) := by have := lt_of_get (M := M111) o114; omega
  have ne598 : (M75.length + 1) ≠ (M111.length + 2) := by have := lt_of_get (M := M111) o115; omega
  have ne599 : M93.length ≠ (M111.length + 2) := by have := lt_of_get (M := M111) o116; omega
  have ne600 : M111.length ≠ (M111.length + 2) := by omega
  have ne601 : (M111.length + 1) ≠ (M111.length + 2) := by omega
  have o602 : M579[(M111.length + 2)]? = some (.live ⟨.box, 34, 20, [(.str ([] : List UInt8) :: (.bool false :: (.nils :: ((arC (cI .i8) 0 (Ar.rep 16 0)) ++ ((.nils :: []) : List AV)))))]⟩) := push_at hM580 2 rfl
  refine kw (stO rfl rfl o602 rfl rfl ⟨rfl, ble rfl⟩ (all1 rfl (all1 rfl (all1 (okL o589 (by simp)) (oaS (rest := [.lsl (M111.length + 1) r575.length 0 r575.length]) (fun _ => rfl) (all1 (okL o595 (by simp)) all0))))) rfl) fun M603 hM604 => ?_
  have o605 := set_ne hM604 ne596 o581
  have o606 := set_ne hM604 ne597 o582
  have o607 := set_ne hM604 ne598 o583
  have o608 := set_ne hM604 ne599 o584
  have o609 := set_ne hM604 ne600 o589
  have o610 := set_ne hM604 ne601 o595
  have o611 : M603[(M111.length + 2)]? = some (.live ⟨.box, 34, 20, [(.str r571 :: (.bool r572 :: (.lsl M111.length r573.length 0 r573.length :: ((arC (cI .i8) 0 r574) ++ ((.lsl (M111.length + 1) r575.length 0 r575.length :: []) : List AV)))))]⟩) := set_same hM604 o602
  obtain ⟨r1061, hr1062, h⟩ := bind_some h
  refine kx (mvO rfl) (Rn (hA h119 (hA h120 (hA h121 (hA h122 (hA h123 (hA h124 (hV (.loc (M111.length + 2) 1 0 0) rfl (hV (.int .i64 0) rfl hZ)))))))) fun e612 h614 h615 h616 h617 h618 h619 h620 h621 => sN (sq (sq ?_)))
  clear h119 h120 h121 h122 h123 h124
  refine Ev.cut (Q1 := laws_FnExactPassOn_c5_Q a1 a2 a3 r69 r70 r86 r87 r88 r89 r90 r571 r572 r573 r574 r575 (([] : Mem).length) M75.length (M75.length + 1) M93.length M111.length (M111.length + 1) (M111.length + 2) r1061) (by
      have h := hr1062
      obtain ⟨r623, hx622, h⟩ := bind_some h
      refine Rg (kx (ldOA (cs' := (.str r571 :: (.bool r572 :: (.lsl M111.length r573.length 0 r573.length :: ((arC (cI .i8) 0 r574) ++ ((.lsl (M111.length + 1) r575.length 0 r575.length :: []) : List AV)))))) h620 o611 rfl rfl (ble rfl) rfl) (kx (ldOA (cs' := (.str ([] : List UInt8) :: (.bool false :: (.nils :: ((arC (cI .i8) 0 r69) ++ ((.nils :: []) : List AV)))))) h617 o605 rfl rfl (ble rfl) rfl) (kc (cl (v := .bool r623) rfl (cns rfl (cns rfl rfl)) (ra1 (ra_agg (mp1 rfl (mp1 rfl (mp1 (ra1_row o609 rfl Notch.fl) (mpA (fun _ => rArg1_flat) (fun _ => rfl) (mp1 (ra1_row o610 rfl Mark.fl) mp0)))))) (ra1 rfl ra0)) (laws_eqChain_ok (Chain.mk r571 (Half.mk r572 r573 r574) r575) (Chain.mk ([] : List UInt8) (Half.mk false ([] : List Notch) r69) ([] : List Mark)) _ hx622) (fun _ => rfl)) (kx (uNot rfl) (kx (mvO rfl) ?_)))))
      rcases ite_some h with ⟨hb624, h⟩ | ⟨hb624, h⟩
      ·refine kx (guF rfl (congrArg Bool.not hb624) (mvO h621)) (kx (guF rfl (congrArg Bool.not hb624) (mvO h618)) (kx (guF rfl (congrArg Bool.not hb624) (bNeq rfl rfl)) (kx (pkF rfl (congrArg Bool.not hb624) rfl) (Rn (hA h614 (hA h615 (hA h616 (hA h617 (hA h618 (hA h619 (hA h620 (hA h621 (hN rfl hZ))))))))) fun e625 h627 h628 h629 h630 h631 h632 h633 h634 h635 => ?_))))
       clear h614 h615 h616 h617 h618 h619 h620 h621
       obtain rfl := si h
       exact kd (show laws_FnExactPassOn_c5_Q a1 a2 a3 r69 r70 r86 r87 r88 r89 r90 r571 r572 r573 r574 r575 (([] : Mem).length) M75.length (M75.length + 1) M93.length M111.length (M111.length + 1) (M111.length + 2) _ _ from ⟨rfl, h627, h628, h629, h630, h631, h632, h633, h634, h635, o608, o609, o610, o611, o605, o606, o607⟩)
      refine kx (gsF rfl (congrArg Bool.not hb624)) (kx (gsF rfl (congrArg Bool.not hb624)) (kx (gsF rfl (congrArg Bool.not hb624)) (kx (pkT rfl (congrArg Bool.not hb624) rfl) (Rn (hA h614 (hA h615 (hA h616 (hA h617 (hA h618 (hA h619 (hA h620 (hA h621 (hV (.bool true) rfl hZ))))))))) fun e636 h638 h639 h640 h641 h642 h643 h644 h645 h646 => ?_))))
      clear h614 h615 h616 h617 h618 h619 h620 h621
      obtain rfl := si h
      exact kd (show laws_FnExactPassOn_c5_Q a1 a2 a3 r69 r70 r86 r87 r88 r89 r90 r571 r572 r573 r574 r575 (([] : Mem).length) M75.length (M75.length + 1) M93.length M111.length (M111.length + 1) (M111.length + 2) _ _ from ⟨rfl, h638, h639, h640, h641, h642, h643, h644, h645, h646, o608, o609, o610, o611, o605, o606, o607⟩)) ?_
  revert h hr1062
  revert r1061
  intro y649 hr1062 h
  intro x e647 M648 hq1060
  obtain ⟨rfl, h650, h651, h652, h653, h654, h655, h656, h657, h658, o659, o660, o661, o662, o663, o664, o665⟩ := hq1060
  refine sN ?_
  rcases ite_some h with ⟨hb666, h⟩ | ⟨hb666, h⟩
  ·refine cT h658 hb666 (sq (Rg (kx (mvO rfl) (Rn (hV (.bool false) rfl hZ) fun e667 h669 => sN (xx (sR ?_))))))
   clear h650 h651 h652 h653 h654 h655 h656 h657 h658
   obtain rfl := si h
   exact eR (resT h669 res0) rfl
  obtain ⟨⟨r671, r672, r673, r674, r675⟩, hx670, h⟩ := bind_some h
  obtain ⟨r677, hx676, h⟩ := bind_some h
  refine cF h658 hb666 (xx (sN (sq (sq (Rd (kf (ldOA (cs' := (.str r86 :: (.bool r87 :: (.lsl M75.length r88.length 0 r88.length :: ((arC (cI .i8) 0 r89) ++ ((.lsl (M75.length + 1) r90.length 0 r90.length :: []) : List AV)))))) h655 o659 rfl rfl (ble rfl) rfl) (kf (ldPA h651 rfl rfl) (fc (cl (v := .agg (.str r671 :: (.bool r672 :: (.sl (some 107) (r673.map Notch.c) :: ((arC (cI .i8) 0 r674) ++ ((.sl (some 39) (r675.map Mark.c) :: []) : List AV)))))) rfl (cns rfl rfl) rfl (laws_toChain_ok a1 _ hx670) nm) (fc (cl (v := .bool r677) rfl (cns rfl (cns rfl rfl)) (ra1 (ra_agg (mp1 rfl (mp1 rfl (mp1 (ra1_row o664 rfl Notch.fl) (mpA (fun _ => rArg1_flat) (fun _ => rfl) (mp1 (ra1_row o665 rfl Mark.fl) mp0)))))) (ra1 rfl ra0)) (laws_eqChain_ok (Chain.mk r86 (Half.mk r87 r88 r89) r90) (Chain.mk r671 (Half.mk r672 r673 r674) r675) _ hx676) (fun _ => rfl)) (kf (uNot rfl) (fZ (Rn (hV (.str a3) h650 (hV (.pt none (.str a1.Debtor :: (.bool a1.Stock.Stock :: (.sl none (a1.Stock.Notches.map Notch.c) :: ((arC (cI .i8) 0 a1.Stock.Grain) ++ ((.sl none (a1.Marks.map Mark.c) :: []) : List AV)))))) h651 (hV (.pt none [.str a2.Name, .int .u32 a2.Secret]) h652 (hV (.loc ([] : Mem).length 1 0 0) h653 (hV (.int .i64 r70) h654 (hV (.loc M93.length 1 0 0) h655 (hV (.loc (M111.length + 2) 1 0 0) h656 (hV (.int .i64 0) h657 (hN rfl hZ))))))))) fun e678 h680 h681 h682 h683 h684 h685 h686 h687 h688 => sN ?_))))))))))))
  clear h650 h651 h652 h653 h654 h655 h656 h657 h658
  rcases ite_some h with ⟨hb689, h⟩ | ⟨hb689, h⟩
  ·obtain ⟨⟨r702, r703, r704⟩, hx701, h⟩ := bind_some h
   refine cF h688 (congrArg Bool.not hb689) (xx (sN (sq (Rg (kx (mvO rfl) (Rn (hA h680 (hA h681 (hA h682 (hA h683 (hA h684 (hA h685 (hA h686 (hA h687 (hV (.int .i64 1) rfl hZ))))))))) fun e690 h692 h693 h694 h695 h696 h697 h698 h699 h700 => sN (sq (Rg (kx (ldOA (cs' := (.str r86 :: (.bool r87 :: (.lsl M75.length r88.length 0 r88.length :: ((arC (cI .i8) 0 r89) ++ ((.lsl (M75.length + 1) r90.length 0 r90.length :: []) : List AV)))))) h697 o659 rfl rfl (ble rfl) rfl) (kx (mvO h700) (Ev.nxw (Ev.callW rfl (cns rfl (cns rfl rfl)) (laws_markChain_ll_ok r86 r87 r88 r89 r90 1 M75.length (M75.length + 1) ne99 M648 o664 o665 _ hx701)) fun v707 M705 hq706 => ?_)))))))))))
   clear h680 h681 h682 h683 h684 h685 h686 h687 h688
   obtain ⟨hv707, o708, o709, fr710, hl711, hl712⟩ := hq706
   have hv707 : v707 = .int .i64 r702 := hv707
   subst hv707
   have o713 : M705[M75.length]? = some (.live ⟨.grow, 107, 2, r703.map Notch.c⟩) := o708
   have o714 : M705[(M75.length + 1)]? = some (.live ⟨.grow, 39, 2, r704.map Mark.c⟩) := o709
   have hl711 : r703.length = r88.length := hl711
   have hl712 : r704.length = r90.length := hl712
   have o715 : M705[M93.length]? = some (.live ⟨.box, 34, 20, [(.str r86 :: (.bool r87 :: (.lsl M75.length r88.length 0 r88.length :: ((arC (cI .i8) 0 r89) ++ ((.lsl (M75.length + 1) r90.length 0 r90.length :: []) : List AV)))))]⟩) := fr710 _ _ (niC (Ne.symm ne107) (niC (Ne.symm ne109) niN)) o659
   have o716 : M705[M111.length]? = some (.live ⟨.grow, 107, 2, r573.map Notch.c⟩) := fr710 _ _ (niC (Ne.symm ne586) (niC (Ne.symm ne587) niN)) o660
   have o717 : M705[(M111.length + 1)]? = some (.live ⟨.grow, 39, 2, r575.map Mark.c⟩) := fr710 _ _ (niC (Ne.symm ne591) (niC (Ne.symm ne592) niN)) o661
   have o718 : M705[(M111.length + 2)]? = some (.live ⟨.box, 34, 20, [(.str r571 :: (.bool r572 :: (.lsl M111.length r573.length 0 r573.length :: ((arC (cI .i8) 0 r574) ++ ((.lsl (M111.length + 1) r575.length 0 r575.length :: []) : List AV)))))]⟩) := fr710 _ _ (niC (Ne.symm ne597) (niC (Ne.symm ne598) niN)) o662
   have o719 : M705[([] : Mem).length]? = some (.live ⟨.box, 34, 20, [(.str ([] : List UInt8) :: (.bool false :: (.nils :: ((arC (cI .i8) 0 r69) ++ ((.nils :: []) : List AV)))))]⟩) := fr710 _ _ (niC ne96 (niC ne98 niN)) o663
   obtain ⟨r1055, hr1056, h⟩ := bind_some h
   refine kx (mvO rfl) (Rn (hA h692 (hA h693 (hA h694 (hA h695 (hA h696 (hA h698 (hA h699 (hN rfl hZ)))))))) fun e720 h722 h723 h724 h725 h726 h727 h728 h729 => sN (sq (sq ?_)))
   clear h692 h693 h694 h695 h696 h697 h698 h699
   refine Ev.cut (Q1 := laws_FnExactPassOn_c6_Q a1 a2 a3 r69 r70 r571 r572 r573 r574 r575 M111.length (M111.length + 1) (M111.length + 2) (([] : Mem).length) r1055) (by
       have h := hr1056
       refine Rg (kx (mvO h729) (kx (bLss rfl rfl) (kx (mvO rfl) ?_)))
       rcases ite_some h with ⟨hb730, h⟩ | ⟨hb730, h⟩
       ·refine kx (gsF rfl hb730) (kx (gsF rfl hb730) (kc (Ev.gsF rfl hb730) (kx (gsF rfl hb730) (kx (pkT rfl hb730 rfl) (kx (mvO rfl) (kx (gsF rfl rfl) (kx (gsF rfl rfl) (kx (gsF rfl rfl) (kx (pkT rfl rfl rfl) (Rn (hA h722 (hA h723 (hA h724 (hA h725 (hA h726 (hA h727 (hV (.bool true) rfl hZ))))))) fun e731 h733 h734 h735 h736 h737 h738 h739 => ?_))))))))))
        clear h722 h723 h724 h725 h726 h727 h728 h729
        obtain rfl := si h
        exact kd (show laws_FnExactPassOn_c6_Q a1 a2 a3 r69 r70 r571 r572 r573 r574 r575 M111.length (M111.length + 1) (M111.length + 2) (([] : Mem).length) _ _ from ⟨rfl, h733, h734, h735, h736, h737, h738, h739, o716, o717, o718, o719⟩)
       obtain ⟨r741, hx740, h⟩ := bind_some h
       refine kx (guF rfl hb730 (ldOA (cs' := (.str r571 :: (.bool r572 :: (.lsl M111.length r573.length 0 r573.length :: ((arC (cI .i8) 0 r574) ++ ((.lsl (M111.length + 1) r575.length 0 r575.length :: []) : List AV)))))) h727 o718 rfl rfl (ble rfl) rfl)) (kx (guF rfl hb730 (ldOA (cs' := (.str ([] : List UInt8) :: (.bool false :: (.nils :: ((arC (cI .i8) 0 r69) ++ ((.nils :: []) : List AV)))))) h725 o719 rfl rfl (ble rfl) rfl)) (kc (Ev.guF rfl hb730 (cl (v := .bool r741) rfl (cns rfl (cns rfl rfl)) (ra1 (ra_agg (mp1 rfl (mp1 rfl (mp1 (ra1_row o716 rfl Notch.fl) (mpA (fun _ => rArg1_flat) (fun _ => rfl) (mp1 (ra1_row o717 rfl Mark.fl) mp0)))))) (ra1 rfl ra0)) (laws_eqChain_ok (Chain.mk r571 (Half.mk r572 r573 r574) r575) (Chain.mk ([] : List UInt8) (Half.mk false ([] : List Notch) r69) ([] : List Mark)) _ hx740) (fun _ => rfl))) (kx (guF rfl hb730 (uNot rfl)) (kx (pkF rfl hb730 rfl) (kx (mvO rfl) ?_)))))
       rcases ite_some h with ⟨hb742, h⟩ | ⟨hb742, h⟩
       ·refine kx (guF rfl (congrArg Bool.not hb742) (mvO h728)) (kx (guF rfl (congrArg Bool.not hb742) (mvO h726)) (kx (guF rfl (congrArg Bool.not hb742) (bNeq rfl rfl)) (kx (pkF rfl (congrArg Bool.not hb742) rfl) (Rn (hA h722 (hA h723 (hA h724 (hA h725 (hA h726 (hA h727 (hN rfl hZ))))))) fun e743 h745 h746 h747 h748 h749 h750 h751 => ?_))))
        clear h722 h723 h724 h725 h726 h727 h728 h729
        obtain rfl := si h
        exact kd (show laws_FnExactPassOn_c6_Q a1 a2 a3 r69 r70 r571 r572 r573 r574 r575 M111.length (M111.length + 1) (M111.length + 2) (([] : Mem).length) _ _ from ⟨rfl, h745, h746, h747, h748, h749, h750, h751, o716, o717, o718, o719⟩)
       refine kx (gsF rfl (congrArg Bool.not hb742)) (kx (gsF rfl (congrArg Bool.not hb742)) (kx (gsF rfl (congrArg Bool.not hb742)) (kx (pkT rfl (congrArg Bool.not hb742) rfl) (Rn (hA h722 (hA h723 (hA h724 (hA h725 (hA h726 (hA h727 (hV (.bool true) rfl hZ))))))) fun e752 h754 h755 h756 h757 h758 h759 h760 => ?_))))
       clear h722 h723 h724 h725 h726 h727 h728 h729
       obtain rfl := si h
       exact kd (show laws_FnExactPassOn_c6_Q a1 a2 a3 r69 r70 r571 r572 r573 r574 r575 M111.length (M111.length + 1) (M111.length + 2) (([] : Mem).length) _ _ from ⟨rfl, h754, h755, h756, h757, h758, h759, h760, o716, o717, o718, o719⟩)) ?_
   revert h hr1056
   revert r1055
   intro y763 hr1056 h
   intro x e761 M762 hq1054
   obtain ⟨rfl, h764, h765, h766, h767, h768, h769, h770, o771, o772, o773, o774⟩ := hq1054
   refine sN ?_
   rcases ite_some h with ⟨hb775, h⟩ | ⟨hb775, h⟩
   ·refine cT h770 hb775 (sq (Rg (kx (mvO rfl) (Rn (hV (.bool false) rfl hZ) fun e776 h778 => sN (xx (sR ?_))))))
    clear h764 h765 h766 h767 h768 h769 h770
    obtain rfl := si h
    exact eR (resT h778 res0) rfl
   obtain ⟨⟨r789, r790, r791⟩, hx788, h⟩ := bind_some h
   refine cF h770 hb775 (xx (sN (sq (Rg (kx (mvO rfl) (Rn (hV (.str a3) h764 (hV (.pt none (.str a1.Debtor :: (.bool a1.Stock.Stock :: (.sl none (a1.Stock.Notches.map Notch.c) :: ((arC (cI .i8) 0 a1.Stock.Grain) ++ ((.sl none (a1.Marks.map Mark.c) :: []) : List AV)))))) h765 (hV (.pt none [.str a2.Name, .int .u32 a2.Secret]) h766 (hV (.loc ([] : Mem).length 1 0 0) h767 (hV (.int .i64 r70) h768 (hV (.loc (M111.length + 2) 1 0 0) h769 (hV (.int .i64 1) rfl hZ))))))) fun e779 h781 h782 h783 h784 h785 h786 h787 => sN (sq (Rg (kx (ldOA (cs' := (.str r571 :: (.bool r572 :: (.lsl M111.length r573.length 0 r573.length :: ((arC (cI .i8) 0 r574) ++ ((.lsl (M111.length + 1) r575.length 0 r575.length :: []) : List AV)))))) h786 o773 rfl rfl (ble rfl) rfl) (kx (mvO h787) (Ev.nxw (Ev.callW rfl (cns rfl (cns rfl rfl)) (laws_markChain_ll_ok r571 r572 r573 r574 r575 1 M111.length (M111.length + 1) ne594 M762 o771 o772 _ hx788)) fun v794 M792 hq793 => ?_)))))))))))
   clear h764 h765 h766 h767 h768 h769 h770
   obtain ⟨hv794, o795, o796, fr797, hl798, hl799⟩ := hq793
   have hv794 : v794 = .int .i64 r789 := hv794
   subst hv794
   have o800 : M792[M111.length]? = some (.live ⟨.grow, 107, 2, r790.map Notch.c⟩) := o795
   have o801 : M792[(M111.length + 1)]? = some (.live ⟨.grow, 39, 2, r791.map Mark.c⟩) := o796
   have hl798 : r790.length = r573.length := hl798
   have hl799 : r791.length = r575.length := hl799
   have o802 : M792[(M111.length + 2)]? = some (.live ⟨.box, 34, 20, [(.str r571 :: (.bool r572 :: (.lsl M111.length r573.length 0 r573.length :: ((arC (cI .i8) 0 r574) ++ ((.lsl (M111.length + 1) r575.length 0 r575.length :: []) : List AV)))))]⟩) := fr797 _ _ (niC (Ne.symm ne600) (niC (Ne.symm ne601) niN)) o773
   have o803 : M792[([] : Mem).length]? = some (.live ⟨.box, 34, 20, [(.str ([] : List UInt8) :: (.bool false :: (.nils :: ((arC (cI .i8) 0 r69) ++ ((.nils :: []) : List AV)))))]⟩) := fr797 _ _ (niC ne585 (niC ne590 niN)) o774
   obtain ⟨r824, hx823, h⟩ := bind_some h
   refine kx (mvO rfl) (Rn (hA h781 (hA h782 (hA h783 (hA h784 (hA h785 (hA h786 (hN rfl hZ))))))) fun e804 h806 h807 h808 h809 h810 h811 h812 => sN (sq (Rg (kx (mvO rfl) (Rn (hA h806 (hA h807 (hA h808 (hA h809 (hA h810 (hA h811 (hA h812 (hV (.int .i64 1) rfl hZ)))))))) fun e813 h815 h816 h817 h818 h819 h820 h821 h822 => sN (sq (Rg (kx (ldOA (cs' := (.str r571 :: (.bool r572 :: (.lsl M111.length r573.length 0 r573.length :: ((arC (cI .i8) 0 r574) ++ ((.lsl (M111.length + 1) r575.length 0 r575.length :: []) : List AV)))))) h820 o802 rfl rfl (ble rfl) rfl) (kx (mvO h822) (kc (cl (v := .int .i64 r824) rfl (cns rfl (cns rfl rfl)) (ra1 (ra_agg (mp1 rfl (mp1 rfl (mp1 (ra1_row o800 (by simp [hl711, hl712, hl798, hl799]) Notch.fl) (mpA (fun _ => rArg1_flat) (fun _ => rfl) (mp1 (ra1_row o801 (by simp [hl711, hl712, hl798, hl799]) Mark.fl) mp0)))))) (ra1 rfl ra0)) (laws_heldChain_ok (Chain.mk r571 (Half.mk r572 r790 r574) r791) 1 _ hx823) (fun _ => rfl)) (kx (mvO rfl) (Rn (hA h815 (hA h816 (hA h817 (hA h818 (hA h819 (hA h820 (hA h821 (hN rfl hZ)))))))) fun e825 h827 h828 h829 h830 h831 h832 h833 h834 => sN (sq (sq (Rg (kx (mvO h834) (kx (bLss rfl rfl) (Rn (hA h827 (hA h828 (hA h829 (hA h830 (hA h831 (hA h832 (hA h833 (hA h834 (hN rfl hZ))))))))) fun e835 h837 h838 h839 h840 h841 h842 h843 h844 h845 => sN ?_))))))))))))))))))
   clear h781 h782 h783 h784 h785 h786 h806 h807 h808 h809 h810 h811 h812 h815 h816 h817 h818 h819 h820 h821 h827 h828 h829 h830 h831 h832 h833 h834
   rcases ite_some h with ⟨hb846, h⟩ | ⟨hb846, h⟩
   ·refine cT h845 hb846 (sq (Rg (kx (mvO rfl) (Rn (hV (.bool false) rfl hZ) fun e847 h849 => sN (xx (sR ?_))))))
    clear h837 h838 h839 h840 h841 h842 h843 h844 h845
    obtain rfl := si h
    exact eR (resT h849 res0) rfl
   refine cF h845 hb846 (xx (sN (sq (sq (Rg (kx (mvO h844) (kx (mvO h843) (kx (bNeq rfl rfl) (Rn (hA h837 (hA h838 (hA h839 (hA h840 (hA h841 (hA h842 (hA h843 (hN rfl hZ)))))))) fun e850 h852 h853 h854 h855 h856 h857 h858 h859 => sN ?_)))))))))
   clear h837 h838 h839 h840 h841 h842 h843 h844 h845
   rcases ite_some h with ⟨hb860, h⟩ | ⟨hb860, h⟩
   ·refine cT h859 hb860 (sq (Rg (kx (mvO rfl) (Rn (hV (.bool false) rfl hZ) fun e861 h863 => sN (xx (sR ?_))))))
    clear h852 h853 h854 h855 h856 h857 h858 h859
    obtain rfl := si h
    exact eR (resT h863 res0) rfl
   obtain ⟨⟨r865, r866, r867, r868, r869⟩, hx864, h⟩ := bind_some h
   obtain ⟨⟨r871, r872⟩, hx870, h⟩ := bind_some h
   obtain ⟨q1053, hx873, h⟩ := bind_some h
   refine cF h859 hb860 (xx (sN (sq (Rd (kf (ldPA h853 rfl rfl) (fc (cl (v := .agg (.str r865 :: (.bool r866 :: (.sl (some 107) (r867.map Notch.c) :: ((arC (cI .i8) 0 r868) ++ ((.sl (some 39) (r869.map Mark.c) :: []) : List AV)))))) rfl (cns rfl rfl) rfl (laws_toChain_ok a1 _ hx864) nm) (kf (ldPA h854 rfl rfl) (fc (cl (v := .agg [.str r871, .int .u32 r872]) rfl (cns rfl rfl) rfl (laws_toParty_ok a2 _ hx870) nm) (kf (mvO h852) ?_)))))))))
   rcases q1053 with ⟨r874, r875⟩ | ⟨r962, r963, r964, r965, r966⟩
   ·refine fc (cl (v := .tup [.agg (.str ([] : List UInt8) :: (.bool false :: (.nils :: ((arC (cI .i8) 0 r874) ++ ((.nils :: []) : List AV))))), .int .i64 r875]) rfl (cns rfl (cns rfl (cns rfl rfl))) rfl (impl_PassOn_ok (Chain.mk r865 (Half.mk r866 r867 r868) r869) (Party.mk r871 r872) a3 _ hx873) nm) (kf (mvO rfl) (kf (exT rfl rfl) (kf (exT rfl rfl) (Ev.nfpushE (alO zero34) (Ev.fend1 fun M877 hM878 => ?_)))))
    have hM878 := fendM hM878 [⟨.box, 34, 20, [(.str ([] : List UInt8) :: (.bool false :: (.nils :: ((arC (cI .i8) 0 (Ar.rep 16 0)) ++ ((.nils :: []) : List AV)))))]⟩] rfl
    have o879 := push_old hM878 o800
    have o880 := push_old hM878 o801
    have o881 := push_old hM878 o802
    have o882 := push_old hM878 o803
    have ne883 : M111.length ≠ M792.length := by have := lt_of_get (M := M792) o800; omega
    have ne884 : (M111.length + 1) ≠ M792.length := by have := lt_of_get (M := M792) o801; omega
    have ne885 : (M111.length + 2) ≠ M792.length := by have := lt_of_get (M := M792) o802; omega
    have ne886 : ([] : Mem).length ≠ M792.length := by have := lt_of_get (M := M792) o803; omega
    have o887 : M877[M792.length]? = some (.live ⟨.box, 34, 20, [(.str ([] : List UInt8) :: (.bool false :: (.nils :: ((arC (cI .i8) 0 (Ar.rep 16 0)) ++ ((.nils :: []) : List AV)))))]⟩) := push_at hM878 0 rfl
    refine kw (stO rfl rfl o887 rfl rfl ⟨rfl, ble rfl⟩ rfl rfl) fun M888 hM889 => ?_
    have o890 := set_ne hM889 ne883 o879
    have o891 := set_ne hM889 ne884 o880
    have o892 := set_ne hM889 ne885 o881
    have o893 := set_ne hM889 ne886 o882
    have o894 : M888[M792.length]? = some (.live ⟨.box, 34, 20, [(.str ([] : List UInt8) :: (.bool false :: (.nils :: ((arC (cI .i8) 0 r874) ++ ((.nils :: []) : List AV)))))]⟩) := set_same hM889 o887
    obtain ⟨r960, hr961, h⟩ := bind_some h
    refine kx (mvO rfl) (Rn (hA h855 (hA h856 (hA h857 (hA h858 (hV (.loc M792.length 1 0 0) rfl (hN rfl hZ)))))) fun e895 h897 h898 h899 h900 h901 h902 => sN (sq (sq ?_)))
    clear h852 h853 h854 h855 h856 h857 h858 h859
    refine Ev.cut (Q1 := laws_FnExactPassOn_c7_Q r571 r572 r573 r574 r575 r789 r790 r791 M111.length (M111.length + 1) (M111.length + 2) (([] : Mem).length) M792.length r960) (by
        have h := hr961
        obtain ⟨r904, hx903, h⟩ := bind_some h
        refine Rg (kx (ldOA (cs' := (.str ([] : List UInt8) :: (.bool false :: (.nils :: ((arC (cI .i8) 0 r874) ++ ((.nils :: []) : List AV)))))) h901 o894 rfl rfl (ble rfl) rfl) (kx (ldOA (cs' := (.str ([] : List UInt8) :: (.bool false :: (.nils :: ((arC (cI .i8) 0 r69) ++ ((.nils :: []) : List AV)))))) h897 o893 rfl rfl (ble rfl) rfl) (kc (cl (v := .bool r904) rfl (cns rfl (cns rfl rfl)) rfl (laws_eqChain_ok (Chain.mk ([] : List UInt8) (Half.mk false ([] : List Notch) r874) ([] : List Mark)) (Chain.mk ([] : List UInt8) (Half.mk false ([] : List Notch) r69) ([] : List Mark)) _ hx903) nm) (kx (uNot rfl) (kx (mvO rfl) ?_)))))
        rcases ite_some h with ⟨hb905, h⟩ | ⟨hb905, h⟩
        ·refine kx (guF rfl (congrArg Bool.not hb905) (mvO h902)) (kx (guF rfl (congrArg Bool.not hb905) (mvO h898)) (kx (guF rfl (congrArg Bool.not hb905) (bNeq rfl rfl)) (kx (pkF rfl (congrArg Bool.not hb905) rfl) (Rn (hA h899 (hA h900 (hN rfl hZ))) fun e906 h908 h909 h910 => ?_))))
         clear h897 h898 h899 h900 h901 h902
         obtain rfl := si h
         exact kd (show laws_FnExactPassOn_c7_Q r571 r572 r573 r574 r575 r789 r790 r791 M111.length (M111.length + 1) (M111.length + 2) (([] : Mem).length) M792.length _ _ from ⟨rfl, h908, h909, h910, o890, o891, o892⟩)
        refine kx (gsF rfl (congrArg Bool.not hb905)) (kx (gsF rfl (congrArg Bool.not hb905)) (kx (gsF rfl (congrArg Bool.not hb905)) (kx (pkT rfl (congrArg Bool.not hb905) rfl) (Rn (hA h899 (hA h900 (hV (.bool true) rfl hZ))) fun e911 h913 h914 h915 => ?_))))
        clear h897 h898 h899 h900 h901 h902
        obtain rfl := si h
        exact kd (show laws_FnExactPassOn_c7_Q r571 r572 r573 r574 r575 r789 r790 r791 M111.length (M111.length + 1) (M111.length + 2) (([] : Mem).length) M792.length _ _ from ⟨rfl, h913, h914, h915, o890, o891, o892⟩)) ?_
    revert h hr961
    revert r960
    intro y918 hr961 h
    intro x e916 M917 hq959
    obtain ⟨rfl, h919, h920, h921, o922, o923, o924⟩ := hq959
    refine sN ?_
    rcases ite_some h with ⟨hb925, h⟩ | ⟨hb925, h⟩
    ·refine cT h921 hb925 (sq (Rg (kx (mvO rfl) (Rn (hV (.bool false) rfl hZ) fun e926 h928 => sN (xx (sR ?_))))))
     clear h919 h920 h921
     obtain rfl := si h
     exact eR (resT h928 res0) rfl
    obtain ⟨r935, hx934, h⟩ := bind_some h
    refine cF h921 hb925 (xx (sN (sq (Rg (kx (mvO rfl) (Rn (hV (.loc (M111.length + 2) 1 0 0) h919 (hV (.int .i64 r789) h920 (hV (.int .i64 1) rfl hZ))) fun e929 h931 h932 h933 => sN (sq (Rg (kx (ldOA (cs' := (.str r571 :: (.bool r572 :: (.lsl M111.length r573.length 0 r573.length :: ((arC (cI .i8) 0 r574) ++ ((.lsl (M111.length + 1) r575.length 0 r575.length :: []) : List AV)))))) h931 o924 rfl rfl (ble rfl) rfl) (kx (mvO h933) (kc (cl (v := .int .i64 r935) rfl (cns rfl (cns rfl rfl)) (ra1 (ra_agg (mp1 rfl (mp1 rfl (mp1 (ra1_row o922 (by simp [hl711, hl712, hl798, hl799]) Notch.fl) (mpA (fun _ => rArg1_flat) (fun _ => rfl) (mp1 (ra1_row o923 (by simp [hl711, hl712, hl798, hl799]) Mark.fl) mp0)))))) (ra1 rfl ra0)) (laws_heldChain_ok (Chain.mk r571 (Half.mk r572 r790 r574) r791) 1 _ hx934) (fun _ => rfl)) (kx (mvO rfl) (Rn (hA h932 (hN rfl hZ)) fun e936 h938 h939 => sN (sq (sq (Rg (kx (mvO h939) (kx (bLss rfl rfl) (Rn (hA h938 (hA h939 (hN rfl hZ))) fun e940 h942 h943 h944 => sN ?_)))))))))))))))))))
    clear h919 h920 h921 h931 h932 h938 h939
    rcases ite_some h with ⟨hb945, h⟩ | ⟨hb945, h⟩
    ·refine cT h944 hb945 (sq (Rg (kx (mvO rfl) (Rn (hV (.bool false) rfl hZ) fun e946 h948 => sN (xx (sR ?_))))))
     clear h942 h943 h944
     obtain rfl := si h
     exact eR (resT h948 res0) rfl
    refine cF h944 hb945 (xx (sN (sq (sq (Rg (kx (mvO h943) (kx (mvO h942) (kx (bNeq rfl rfl) (Rn (hN rfl hZ) fun e949 h951 => sN ?_)))))))))
    clear h942 h943 h944
    rcases ite_some h with ⟨hb952, h⟩ | ⟨hb952, h⟩
    ·refine cT h951 hb952 (sq (Rg (kx (mvO rfl) (Rn (hV (.bool false) rfl hZ) fun e953 h955 => sN (xx (sR ?_))))))
     clear h951
     obtain rfl := si h
     exact eR (resT h955 res0) rfl
    refine cF h951 hb952 (xx (sN (sq (Rg (kx (mvO rfl) (Rn (hV (.bool true) rfl hZ) fun e956 h958 => sN (xx ?_)))))))
    clear h951
    obtain rfl := si h
    exact eR (resT h958 res0) rfl
   refine fc (cl (v := .tup [.agg (.str r962 :: (.bool r963 :: (.sl (some 107) (r964.map Notch.c) :: ((arC (cI .i8) 0 r965) ++ ((.sl (some 39) (r966.map Mark.c) :: []) : List AV))))), .int .i64 0]) rfl (cns rfl (cns rfl (cns rfl rfl))) rfl (impl_PassOn_ok (Chain.mk r865 (Half.mk r866 r867 r868) r869) (Party.mk r871 r872) a3 _ hx873) nm) (kf (mvO rfl) (kf (exT rfl rfl) (kf (exT rfl rfl) (Ev.nfpushE (alO zero34) (Ev.fend1 fun M968 hM969 => ?_)))))
   have hM969 := fendM hM969 [⟨.box, 34, 20, [(.str ([] : List UInt8) :: (.bool false :: (.nils :: ((arC (cI .i8) 0 (Ar.rep 16 0)) ++ ((.nils :: []) : List AV)))))]⟩] rfl
   have o970 := push_old hM969 o800
   have o971 := push_old hM969 o801
   have o972 := push_old hM969 o802
   have o973 := push_old hM969 o803
   have ne974 : M111.length ≠ M792.length := by have := lt_of_get (M := M792) o800; omega
   have ne975 : (M111.length + 1) ≠ M792.length := by have := lt_of_get (M := M792) o801; omega
   have ne976 : (M111.length + 2) ≠ M792.length := by have := lt_of_get (M := M792) o802; omega
   have ne977 : ([] : Mem).length ≠ M792.length := by have := lt_of_get (M := M792) o803; omega
   have o978 : M968[M792.length]? = some (.live ⟨.box, 34, 20, [(.str ([] : List UInt8) :: (.bool false :: (.nils :: ((arC (cI .i8) 0 (Ar.rep 16 0)) ++ ((.nils :: []) : List AV)))))]⟩) := push_at hM969 0 rfl
   refine kw (stO rfl rfl o978 rfl rfl ⟨rfl, ble rfl⟩ rfl rfl) fun M979 hM980 => ?_
   have o981 := set_ne hM980 ne974 o970
   have o982 := set_ne hM980 ne975 o971
   have o983 := set_ne hM980 ne976 o972
   have o984 := set_ne hM980 ne977 o973
   have o985 : M979[M792.length]? = some (.live ⟨.box, 34, 20, [(.str r962 :: (.bool r963 :: (.sl none (r964.map Notch.c) :: ((arC (cI .i8) 0 r965) ++ ((.sl none (r966.map Mark.c) :: []) : List AV)))))]⟩) := set_same hM980 o978
   obtain ⟨r1051, hr1052, h⟩ := bind_some h
   refine kx (mvO rfl) (Rn (hA h855 (hA h856 (hA h857 (hA h858 (hV (.loc M792.length 1 0 0) rfl (hV (.int .i64 0) rfl hZ)))))) fun e986 h988 h989 h990 h991 h992 h993 => sN (sq (sq ?_)))
   clear h852 h853 h854 h855 h856 h857 h858 h859
   refine Ev.cut (Q1 := laws_FnExactPassOn_c8_Q r571 r572 r573 r574 r575 r789 r790 r791 M111.length (M111.length + 1) (M111.length + 2) (([] : Mem).length) M792.length r1051) (by
       have h := hr1052
       obtain ⟨r995, hx994, h⟩ := bind_some h
       refine Rg (kx (ldOA (cs' := (.str r962 :: (.bool r963 :: (.sl none (r964.map Notch.c) :: ((arC (cI .i8) 0 r965) ++ ((.sl none (r966.map Mark.c) :: []) : List AV)))))) h992 o985 rfl rfl (ble rfl) rfl) (kx (ldOA (cs' := (.str ([] : List UInt8) :: (.bool false :: (.nils :: ((arC (cI .i8) 0 r69) ++ ((.nils :: []) : List AV)))))) h988 o984 rfl rfl (ble rfl) rfl) (kc (cl (v := .bool r995) rfl (cns rfl (cns rfl rfl)) rfl (laws_eqChain_ok (Chain.mk r962 (Half.mk r963 r964 r965) r966) (Chain.mk ([] : List UInt8) (Half.mk false ([] : List Notch) r69) ([] : List Mark)) _ hx994) nm) (kx (uNot rfl) (kx (mvO rfl) ?_)))))
       rcases ite_some h with ⟨hb996, h⟩ | ⟨hb996, h⟩
       ·refine kx (guF rfl (congrArg Bool.not hb996) (mvO h993)) (kx (guF rfl (congrArg Bool.not hb996) (mvO h989)) (kx (guF rfl (congrArg Bool.not hb996) (bNeq rfl rfl)) (kx (pkF rfl (congrArg Bool.not hb996) rfl) (Rn (hA h990 (hA h991 (hN rfl hZ))) fun e997 h999 h1000 h1001 => ?_))))
        clear h988 h989 h990 h991 h992 h993
        obtain rfl := si h
        exact kd (show laws_FnExactPassOn_c8_Q r571 r572 r573 r574 r575 r789 r790 r791 M111.length (M111.length + 1) (M111.length + 2) (([] : Mem).length) M792.length _ _ from ⟨rfl, h999, h1000, h1001, o981, o982, o983⟩)
       refine kx (gsF rfl (congrArg Bool.not hb996)) (kx (gsF rfl (congrArg Bool.not hb996)) (kx (gsF rfl (congrArg Bool.not hb996)) (kx (pkT rfl (congrArg Bool.not hb996) rfl) (Rn (hA h990 (hA h991 (hV (.bool true) rfl hZ))) fun e1002 h1004 h1005 h1006 => ?_))))
       clear h988 h989 h990 h991 h992 h993
       obtain rfl := si h
       exact kd (show laws_FnExactPassOn_c8_Q r571 r572 r573 r574 r575 r789 r790 r791 M111.length (M111.length + 1) (M111.length + 2) (([] : Mem).length) M792.length _ _ from ⟨rfl, h1004, h1005, h1006, o981, o982, o983⟩)) ?_
   revert h hr1052
   revert r1051
   intro y1009 hr1052 h
   intro x e1007 M1008 hq1050
   obtain ⟨rfl, h1010, h1011, h1012, o1013, o1014, o1015⟩ := hq1050
   refine sN ?_
   rcases ite_some h with ⟨hb1016, h⟩ | ⟨hb1016, h⟩
   ·refine cT h1012 hb1016 (sq (Rg (kx (mvO rfl) (Rn (hV (.bool false) rfl hZ) fun e1017 h1019 => sN (xx (sR ?_))))))
    clear h1010 h1011 h1012
    obtain rfl := si h
    exact eR (resT h1019 res0) rfl
   obtain ⟨r1026, hx1025, h⟩ := bind_some h
   refine cF h1012 hb1016 (xx (sN (sq (Rg (kx (mvO rfl) (Rn (hV (.loc (M111.length + 2) 1 0 0) h1010 (hV (.int .i64 r789) h1011 (hV (.int .i64 1) rfl hZ))) fun e1020 h1022 h1023 h1024 => sN (sq (Rg (kx (ldOA (cs' := (.str r571 :: (.bool r572 :: (.lsl M111.length r573.length 0 r573.length :: ((arC (cI .i8) 0 r574) ++ ((.lsl (M111.length + 1) r575.length 0 r575.length :: []) : List AV)))))) h1022 o1015 rfl rfl (ble rfl) rfl) (kx (mvO h1024) (kc (cl (v := .int .i64 r1026) rfl (cns rfl (cns rfl rfl)) (ra1 (ra_agg (mp1 rfl (mp1 rfl (mp1 (ra1_row o1013 (by simp [hl711, hl712, hl798, hl799]) Notch.fl) (mpA (fun _ => rArg1_flat) (fun _ => rfl) (mp1 (ra1_row o1014 (by simp [hl711, hl712, hl798, hl799]) Mark.fl) mp0)))))) (ra1 rfl ra0)) (laws_heldChain_ok (Chain.mk r571 (Half.mk r572 r790 r574) r791) 1 _ hx1025) (fun _ => rfl)) (kx (mvO rfl) (Rn (hA h1023 (hN rfl hZ)) fun e1027 h1029 h1030 => sN (sq (sq (Rg (kx (mvO h1030) (kx (bLss rfl rfl) (Rn (hA h1029 (hA h1030 (hN rfl hZ))) fun e1031 h1033 h1034 h1035 => sN ?_)))))))))))))))))))
   clear h1010 h1011 h1012 h1022 h1023 h1029 h1030
   rcases ite_some h with ⟨hb1036, h⟩ | ⟨hb1036, h⟩
   ·refine cT h1035 hb1036 (sq (Rg (kx (mvO rfl) (Rn (hV (.bool false) rfl hZ) fun e1037 h1039 => sN (xx (sR ?_))))))
    clear h1033 h1034 h1035
    obtain rfl := si h
    exact eR (resT h1039 res0) rfl
   refine cF h1035 hb1036 (xx (sN (sq (sq (Rg (kx (mvO h1034) (kx (mvO h1033) (kx (bNeq rfl rfl) (Rn (hN rfl hZ) fun e1040 h1042 => sN ?_)))))))))
   clear h1033 h1034 h1035
   rcases ite_some h with ⟨hb1043, h⟩ | ⟨hb1043, h⟩
   ·refine cT h1042 hb1043 (sq (Rg (kx (mvO rfl) (Rn (hV (.bool false) rfl hZ) fun e1044 h1046 => sN (xx (sR ?_))))))
    clear h1042
    obtain rfl := si h
    exact eR (resT h1046 res0) rfl
   refine cF h1042 hb1043 (xx (sN (sq (Rg (kx (mvO rfl) (Rn (hV (.bool true) rfl hZ) fun e1047 h1049 => sN (xx ?_)))))))
   clear h1042
   obtain rfl := si h
   exact eR (resT h1049 res0) rfl
  refine cT h688 (congrArg Bool.not hb689) (sq (Rg (kx (mvO rfl) (Rn (hV (.bool false) rfl hZ) fun e1057 h1059 => sN (xx (sR ?_))))))
  clear h680 h681 h682 h683 h684 h685 h686 h687 h688
  obtain rfl := si h
  exact eR (resT h1059 res0) rfl
 refine fc (cl (v := .tup [.agg (.str r1064 :: (.bool r1065 :: (.sl (some 107) (r1066.map Notch.c) :: ((arC (cI .i8) 0 r1067) ++ ((.sl (some 39) (r1068.map Mark.c) :: []) : List AV))))), .int .i64 0]) rfl (cns rfl (cns rfl (cns rfl rfl))) rfl (spec_PassOn_ok (Chain.mk r60 (Half.mk r61 r62 r63) r64) (Party.mk r66 r67) a3 _ hx68) nm) (kf (mvO rfl) (kf (exT rfl rfl) (kf (exT rfl rfl) (Ev.nfpushE (alO zero34) (Ev.fend1 fun M1070 hM1071 => ?_)))))
 have hM1071 := fendM hM1071 [⟨.box, 34, 20, [(.str ([] : List UInt8) :: (.bool false :: (.nils :: ((arC (cI .i8) 0 (Ar.rep 16 0)) ++ ((.nils :: []) : List AV)))))]⟩] rfl
 have o1072 : M1070[([] : Mem).length]? = some (.live ⟨.box, 34, 20, [(.str ([] : List UInt8) :: (.bool false :: (.nils :: ((arC (cI .i8) 0 (Ar.rep 16 0)) ++ ((.nils :: []) : List AV)))))]⟩) := push_at hM1071 0 rfl
 refine kw (stO rfl rfl o1072 rfl rfl ⟨rfl, ble rfl⟩ rfl rfl) fun M1073 hM1074 => ?_
 have o1075 : M1073[([] : Mem).length]? = some (.live ⟨.box, 34, 20, [(.str r1064 :: (.bool r1065 :: (.sl none (r1066.map Notch.c) :: ((arC (cI .i8) 0 r1067) ++ ((.sl none (r1068.map Mark.c) :: []) : List AV)))))]⟩) := set_same hM1074 o1072
 obtain ⟨⟨r1084, r1085, r1086, r1087, r1088⟩, hx1083, h⟩ := bind_some h
 refine kx (mvO rfl) (Rn (hA h51 (hA h52 (hA h53 (hV (.loc ([] : Mem).length 1 0 0) rfl (hV (.int .i64 0) rfl hZ))))) fun e1076 h1078 h1079 h1080 h1081 h1082 => sN (sq (Rg (kx (ldPA h1079 rfl rfl) (Ev.nxcp (Ev.callT (v := .agg (.str r1084 :: (.bool r1085 :: (.sl (some 107) (r1086.map Notch.c) :: ((arC (cI .i8) 0 r1087) ++ ((.sl (some 39) (r1088.map Mark.c) :: []) : List AV)))))) rfl (cns rfl rfl) rfl (laws_toChain_ok a1 _ hx1083) (th_gen (v' := .agg (.str r1084 :: (.bool r1085 :: (.lsl M1073.length r1086.length 0 r1086.length :: ((arC (cI .i8) 0 r1087) ++ ((.lsl (M1073.length + 1) r1088.length 0 r1088.length :: []) : List AV)))))) (l := [⟨.grow, 107, 2, r1086.map Notch.c⟩, ⟨.grow, 39, 2, r1088.map Mark.c⟩]) (own_agg (oa1 rfl (oa1 rfl (oa1 (own1_row' (c := Notch.c) Notch.flF) (oaA (fun _ => own1_flat) (fun _ => rfl) (oa1 (own1_row' (c := Mark.c) Mark.flF) oa0)))))) (by simp [thaw, thaw2, thaw1, thawL, co107, co39, thA (c := (cI .i8)) (fun _ => rfl), thA0 (c := (cI .i8)) (fun _ => rfl)]) rfl rfl)) fun M1091 hM1092 => ?_)))))
 clear h51 h52 h53 h54
 have o1093 := push_old hM1092 o1075
 have ne1094 : ([] : Mem).length ≠ M1073.length := by have := lt_of_get (M := M1073) o1075; omega
 have o1095 : M1091[M1073.length]? = some (.live ⟨.grow, 107, 2, r1086.map Notch.c⟩) := push_at hM1092 0 rfl
 have ne1096 : ([] : Mem).length ≠ (M1073.length + 1) := by have := lt_of_get (M := M1073) o1075; omega
 have ne1097 : M1073.length ≠ (M1073.length + 1) := by omega
 have o1098 : M1091[(M1073.length + 1)]? = some (.live ⟨.grow, 39, 2, r1088.map Mark.c⟩) := push_at hM1092 1 rfl
 refine ku (alO zero34) fun M1100 hM1101 => ?_
 have o1102 := push_old hM1101 o1093
 have ne1103 := ne_new o1093
 have o1104 := push_old hM1101 o1095
 have ne1105 := ne_new o1095
 have o1106 := push_old hM1101 o1098
 have ne1107 := ne_new o1098
 have o1108 : M1100[M1091.length]? = some (.live ⟨.box, 34, 20, [(.str ([] : List UInt8) :: (.bool false :: (.nils :: ((arC (cI .i8) 0 (Ar.rep 16 0)) ++ ((.nils :: []) : List AV)))))]⟩) := push_new hM1101
 refine kw (stO rfl rfl o1108 rfl rfl ⟨rfl, ble rfl⟩ (all1 rfl (all1 rfl (all1 (okL o1104 (by simp)) (oaS (rest := [.lsl (M1073.length + 1) r1088.length 0 r1088.length]) (fun _ => rfl) (all1 (okL o1106 (by simp)) all0))))) rfl) fun M1109 hM1110 => ?_
 have o1111 := set_ne hM1110 ne1103 o1102
 have o1112 := set_ne hM1110 ne1105 o1104
 have o1113 := set_ne hM1110 ne1107 o1106
 have o1114 : M1109[M1091.length]? = some (.live ⟨.box, 34, 20, [(.str r1084 :: (.bool r1085 :: (.lsl M1073.length r1086.length 0 r1086.length :: ((arC (cI .i8) 0 r1087) ++ ((.lsl (M1073.length + 1) r1088.length 0 r1088.length :: []) : List AV)))))]⟩) := set_same hM1110 o1108
 obtain ⟨⟨r1124, r1125⟩, hx1123, h⟩ := bind_some h
 obtain ⟨q2061, hx1126, h⟩ := bind_some h
 refine Rn (hA h1078 (hA h1079 (hA h1080 (hA h1081 (hA h1082 (hV (.loc M1091.length 1 0 0) rfl hZ)))))) fun e1115 h1117 h1118 h1119 h1120 h1121 h1122 => sN (sq (Rd (kf (ldOA (cs' := (.str r1084 :: (.bool r1085 :: (.lsl M1073.length r1086.length 0 r1086.length :: ((arC (cI .i8) 0 r1087) ++ ((.lsl (M1073.length + 1) r1088.length 0 r1088.length :: []) : List AV)))))) h1122 o1114 rfl rfl (ble rfl) rfl) (kf (ldPA h1119 rfl rfl) (fc (cl (v := .agg [.str r1124, .int .u32 r1125]) rfl (cns rfl rfl) rfl (laws_toParty_ok a2 _ hx1123) nm) (kf (mvO h1117) ?_))))))
 clear h1078 h1079 h1080 h1081 h1082
 rcases q2061 with ⟨r1127, r1128⟩ | ⟨r1569, r1570, r1571, r1572, r1573⟩
 ·refine Ev.nfcpE (Ev.callT (v := .tup [.agg (.str ([] : List UInt8) :: (.bool false :: (.nils :: ((arC (cI .i8) 0 r1127) ++ ((.nils :: []) : List AV))))), .int .i64 r1128]) rfl (cns rfl (cns rfl (cns rfl rfl))) (ra1 (ra_agg (mp1 rfl (mp1 rfl (mp1 (ra1_row o1112 rfl Notch.fl) (mpA (fun _ => rArg1_flat) (fun _ => rfl) (mp1 (ra1_row o1113 rfl Mark.fl) mp0)))))) (ra1 rfl (ra1 rfl ra0))) (impl_PassOn_ok (Chain.mk r1084 (Half.mk r1085 r1086 r1087) r1088) (Party.mk r1124 r1125) a3 _ hx1126) (th_gen (v' := .tup [.agg (.str ([] : List UInt8) :: (.bool false :: (.nils :: ((arC (cI .i8) 0 r1127) ++ ((.nils :: []) : List AV))))), .int .i64 r1128]) (l := []) (own_tup (oa1 (own2_agg (oa1 rfl (oa1 rfl (oa1 rfl (oaA (fun _ => own1_flat) (fun _ => rfl) (oa1 rfl oa0)))))) (oa1 rfl oa0))) (by simp [thaw, thaw2, thaw1, thawL, thA (c := (cI .i8)) (fun _ => rfl), thA0 (c := (cI .i8)) (fun _ => rfl)]) rfl rfl)) (kf (mvO rfl) (kf (exT rfl rfl) (kf (exT rfl rfl) (Ev.nfpushE (alO zero34) (Ev.fend1 fun M1130 hM1131 => ?_)))))
  have hM1131 := fendM hM1131 [⟨.box, 34, 20, [(.str ([] : List UInt8) :: (.bool false :: (.nils :: ((arC (cI .i8) 0 (Ar.rep 16 0)) ++ ((.nils :: []) : List AV)))))]⟩] rfl
  have o1132 := push_old hM1131 o1111
  have o1133 := push_old hM1131 o1112
  have o1134 := push_old hM1131 o1113
  have o1135 := push_old hM1131 o1114
  have ne1136 : ([] : Mem).length ≠ M1109.length := by have := lt_of_get (M := M1109) o1111; omega
  have ne1137 : M1073.length ≠ M1109.length := by have := lt_of_get (M := M1109) o1112; omega
  have ne1138 : (M1073.length + 1) ≠ M1109.length := by have := lt_of_get (M := M1109) o1113; omega
  have ne1139 : M1091.length ≠ M1109.length := by have := lt_of_get (M := M1109) o1114; omega
  have o1140 : M1130[M1109.length]? = some (.live ⟨.box, 34, 20, [(.str ([] : List UInt8) :: (.bool false :: (.nils :: ((arC (cI .i8) 0 (Ar.rep 16 0)) ++ ((.nils :: []) : List AV)))))]⟩) := push_at hM1131 0 rfl
  refine kw (stO rfl rfl o1140 rfl rfl ⟨rfl, ble rfl⟩ rfl rfl) fun M1141 hM1142 => ?_
  have o1143 := set_ne hM1142 ne1136 o1132
  have o1144 := set_ne hM1142 ne1137 o1133
  have o1145 := set_ne hM1142 ne1138 o1134
  have o1146 := set_ne hM1142 ne1139 o1135
  have o1147 : M1141[M1109.length]? = some (.live ⟨.box, 34, 20, [(.str ([] : List UInt8) :: (.bool false :: (.nils :: ((arC (cI .i8) 0 r1127) ++ ((.nils :: []) : List AV)))))]⟩) := set_same hM1142 o1140
  obtain ⟨r1567, hr1568, h⟩ := bind_some h
  refine kx (mvO rfl) (Rn (hA h1117 (hA h1118 (hA h1119 (hA h1120 (hA h1121 (hA h1122 (hV (.loc M1109.length 1 0 0) rfl (hN rfl hZ)))))))) fun e1148 h1150 h1151 h1152 h1153 h1154 h1155 h1156 h1157 => sN (sq (sq ?_)))
  clear h1117 h1118 h1119 h1120 h1121 h1122
  refine Ev.cut (Q1 := laws_FnExactPassOn_c9_Q a1 a2 a3 r1064 r1065 r1066 r1067 r1068 r1084 r1085 r1086 r1087 r1088 r1127 r1128 (([] : Mem).length) M1073.length (M1073.length + 1) M1091.length M1109.length r1567) (by
      have h := hr1568
      obtain ⟨r1159, hx1158, h⟩ := bind_some h
      refine Rg (kx (ldOA (cs' := (.str ([] : List UInt8) :: (.bool false :: (.nils :: ((arC (cI .i8) 0 r1127) ++ ((.nils :: []) : List AV)))))) h1156 o1147 rfl rfl (ble rfl) rfl) (kx (ldOA (cs' := (.str r1064 :: (.bool r1065 :: (.sl none (r1066.map Notch.c) :: ((arC (cI .i8) 0 r1067) ++ ((.sl none (r1068.map Mark.c) :: []) : List AV)))))) h1153 o1143 rfl rfl (ble rfl) rfl) (kc (cl (v := .bool r1159) rfl (cns rfl (cns rfl rfl)) rfl (laws_eqChain_ok (Chain.mk ([] : List UInt8) (Half.mk false ([] : List Notch) r1127) ([] : List Mark)) (Chain.mk r1064 (Half.mk r1065 r1066 r1067) r1068) _ hx1158) nm) (kx (uNot rfl) (kx (mvO rfl) ?_)))))
      rcases ite_some h with ⟨hb1160, h⟩ | ⟨hb1160, h⟩
      ·refine kx (guF rfl (congrArg Bool.not hb1160) (mvO h1157)) (kx (guF rfl (congrArg Bool.not hb1160) (mvO h1154)) (kx (guF rfl (congrArg Bool.not hb1160) (bNeq rfl rfl)) (kx (pkF rfl (congrArg Bool.not hb1160) rfl) (Rn (hA h1150 (hA h1151 (hA h1152 (hA h1153 (hA h1154 (hA h1155 (hA h1156 (hA h1157 (hN rfl hZ))))))))) fun e1161 h1163 h1164 h1165 h1166 h1167 h1168 h1169 h1170 h1171 => ?_))))
       clear h1150 h1151 h1152 h1153 h1154 h1155 h1156 h1157
       obtain rfl := si h
       exact kd (show laws_FnExactPassOn_c9_Q a1 a2 a3 r1064 r1065 r1066 r1067 r1068 r1084 r1085 r1086 r1087 r1088 r1127 r1128 (([] : Mem).length) M1073.length (M1073.length + 1) M1091.length M1109.length _ _ from ⟨rfl, h1163, h1164, h1165, h1166, h1167, h1168, h1169, h1170, h1171, o1143, o1144, o1145, o1146, o1147⟩)
      refine kx (gsF rfl (congrArg Bool.not hb1160)) (kx (gsF rfl (congrArg Bool.not hb1160)) (kx (gsF rfl (congrArg Bool.not hb1160)) (kx (pkT rfl (congrArg Bool.not hb1160) rfl) (Rn (hA h1150 (hA h1151 (hA h1152 (hA h1153 (hA h1154 (hA h1155 (hA h1156 (hA h1157 (hV (.bool true) rfl hZ))))))))) fun e1172 h1174 h1175 h1176 h1177 h1178 h1179 h1180 h1181 h1182 => ?_))))
      clear h1150 h1151 h1152 h1153 h1154 h1155 h1156 h1157
      obtain rfl := si h
      exact kd (show laws_FnExactPassOn_c9_Q a1 a2 a3 r1064 r1065 r1066 r1067 r1068 r1084 r1085 r1086 r1087 r1088 r1127 r1128 (([] : Mem).length) M1073.length (M1073.length + 1) M1091.length M1109.length _ _ from ⟨rfl, h1174, h1175, h1176, h1177, h1178, h1179, h1180, h1181, h1182, o1143, o1144, o1145, o1146, o1147⟩)) ?_
  revert h hr1568
  revert r1567
  intro y1185 hr1568 h
  intro x e1183 M1184 hq1566
  obtain ⟨rfl, h1186, h1187, h1188, h1189, h1190, h1191, h1192, h1193, h1194, o1195, o1196, o1197, o1198, o1199⟩ := hq1566
  refine sN ?_
  rcases ite_some h with ⟨hb1200, h⟩ | ⟨hb1200, h⟩
  ·refine cT h1194 hb1200 (sq (Rg (kx (mvO rfl) (Rn (hV (.bool false) rfl hZ) fun e1201 h1203 => sN (xx (sR ?_))))))
   clear h1186 h1187 h1188 h1189 h1190 h1191 h1192 h1193 h1194
   obtain rfl := si h
   exact eR (resT h1203 res0) rfl
  obtain ⟨⟨r1205, r1206, r1207, r1208, r1209⟩, hx1204, h⟩ := bind_some h
  obtain ⟨r1211, hx1210, h⟩ := bind_some h
  refine cF h1194 hb1200 (xx (sN (sq (sq (Rd (kf (ldOA (cs' := (.str r1084 :: (.bool r1085 :: (.lsl M1073.length r1086.length 0 r1086.length :: ((arC (cI .i8) 0 r1087) ++ ((.lsl (M1073.length + 1) r1088.length 0 r1088.length :: []) : List AV)))))) h1191 o1198 rfl rfl (ble rfl) rfl) (kf (ldPA h1187 rfl rfl) (fc (cl (v := .agg (.str r1205 :: (.bool r1206 :: (.sl (some 107) (r1207.map Notch.c) :: ((arC (cI .i8) 0 r1208) ++ ((.sl (some 39) (r1209.map Mark.c) :: []) : List AV)))))) rfl (cns rfl rfl) rfl (laws_toChain_ok a1 _ hx1204) nm) (fc (cl (v := .bool r1211) rfl (cns rfl (cns rfl rfl)) (ra1 (ra_agg (mp1 rfl (mp1 rfl (mp1 (ra1_row o1196 rfl Notch.fl) (mpA (fun _ => rArg1_flat) (fun _ => rfl) (mp1 (ra1_row o1197 rfl Mark.fl) mp0)))))) (ra1 rfl ra0)) (laws_eqChain_ok (Chain.mk r1084 (Half.mk r1085 r1086 r1087) r1088) (Chain.mk r1205 (Half.mk r1206 r1207 r1208) r1209) _ hx1210) (fun _ => rfl)) (kf (uNot rfl) (fZ (Rn (hV (.str a3) h1186 (hV (.pt none (.str a1.Debtor :: (.bool a1.Stock.Stock :: (.sl none (a1.Stock.Notches.map Notch.c) :: ((arC (cI .i8) 0 a1.Stock.Grain) ++ ((.sl none (a1.Marks.map Mark.c) :: []) : List AV)))))) h1187 (hV (.pt none [.str a2.Name, .int .u32 a2.Secret]) h1188 (hV (.loc ([] : Mem).length 1 0 0) h1189 (hV (.int .i64 0) h1190 (hV (.loc M1091.length 1 0 0) h1191 (hV (.loc M1109.length 1 0 0) h1192 (hV (.int .i64 r1128) h1193 (hN rfl hZ))))))))) fun e1212 h1214 h1215 h1216 h1217 h1218 h1219 h1220 h1221 h1222 => sN ?_))))))))))))
  clear h1186 h1187 h1188 h1189 h1190 h1191 h1192 h1193 h1194
  rcases ite_some h with ⟨hb1223, h⟩ | ⟨hb1223, h⟩
  ·obtain ⟨⟨r1236, r1237, r1238⟩, hx1235, h⟩ := bind_some h
   refine cF h1222 (congrArg Bool.not hb1223) (xx (sN (sq (Rg (kx (mvO rfl) (Rn (hA h1214 (hA h1215 (hA h1216 (hA h1217 (hA h1218 (hA h1219 (hA h1220 (hA h1221 (hV (.int .i64 1) rfl hZ))))))))) fun e1224 h1226 h1227 h1228 h1229 h1230 h1231 h1232 h1233 h1234 => sN (sq (Rg (kx (ldOA (cs' := (.str r1084 :: (.bool r1085 :: (.lsl M1073.length r1086.length 0 r1086.length :: ((arC (cI .i8) 0 r1087) ++ ((.lsl (M1073.length + 1) r1088.length 0 r1088.length :: []) : List AV)))))) h1231 o1198 rfl rfl (ble rfl) rfl) (kx (mvO h1234) (Ev.nxw (Ev.callW rfl (cns rfl (cns rfl rfl)) (laws_markChain_ll_ok r1084 r1085 r1086 r1087 r1088 1 M1073.length (M1073.length + 1) ne1097 M1184 o1196 o1197 _ hx1235)) fun v1241 M1239 hq1240 => ?_)))))))))))
   clear h1214 h1215 h1216 h1217 h1218 h1219 h1220 h1221 h1222
   obtain ⟨hv1241, o1242, o1243, fr1244, hl1245, hl1246⟩ := hq1240
   have hv1241 : v1241 = .int .i64 r1236 := hv1241
   subst hv1241
   have o1247 : M1239[M1073.length]? = some (.live ⟨.grow, 107, 2, r1237.map Notch.c⟩) := o1242
   have o1248 : M1239[(M1073.length + 1)]? = some (.live ⟨.grow, 39, 2, r1238.map Mark.c⟩) := o1243
   have hl1245 : r1237.length = r1086.length := hl1245
   have hl1246 : r1238.length = r1088.length := hl1246
   have o1249 : M1239[([] : Mem).length]? = some (.live ⟨.box, 34, 20, [(.str r1064 :: (.bool r1065 :: (.sl none (r1066.map Notch.c) :: ((arC (cI .i8) 0 r1067) ++ ((.sl none (r1068.map Mark.c) :: []) : List AV)))))]⟩) := fr1244 _ _ (niC ne1094 (niC ne1096 niN)) o1195
   have o1250 : M1239[M1091.length]? = some (.live ⟨.box, 34, 20, [(.str r1084 :: (.bool r1085 :: (.lsl M1073.length r1086.length 0 r1086.length :: ((arC (cI .i8) 0 r1087) ++ ((.lsl (M1073.length + 1) r1088.length 0 r1088.length :: []) : List AV)))))]⟩) := fr1244 _ _ (niC (Ne.symm ne1105) (niC (Ne.symm ne1107) niN)) o1198
   have o1251 : M1239[M1109.length]? = some (.live ⟨.box, 34, 20, [(.str ([] : List UInt8) :: (.bool false :: (.nils :: ((arC (cI .i8) 0 r1127) ++ ((.nils :: []) : List AV)))))]⟩) := fr1244 _ _ (niC (Ne.symm ne1137) (niC (Ne.symm ne1138) niN)) o1199
   obtain ⟨r1561, hr1562, h⟩ := bind_some h
   refine kx (mvO rfl) (Rn (hA h1226 (hA h1227 (hA h1228 (hA h1229 (hA h1230 (hA h1232 (hA h1233 (hN rfl hZ)))))))) fun e1252 h1254 h1255 h1256 h1257 h1258 h1259 h1260 h1261 => sN (sq (sq ?_)))
   clear h1226 h1227 h1228 h1229 h1230 h1231 h1232 h1233
   refine Ev.cut (Q1 := laws_FnExactPassOn_c10_Q a1 a2 a3 r1064 r1065 r1066 r1067 r1068 r1127 (([] : Mem).length) M1109.length r1561) (by
       have h := hr1562
       refine Rg (kx (mvO h1261) (kx (bLss rfl rfl) (kx (mvO rfl) ?_)))
       rcases ite_some h with ⟨hb1262, h⟩ | ⟨hb1262, h⟩
       ·refine kx (gsF rfl hb1262) (kx (gsF rfl hb1262) (kc (Ev.gsF rfl hb1262) (kx (gsF rfl hb1262) (kx (pkT rfl hb1262 rfl) (kx (mvO rfl) (kx (gsF rfl rfl) (kx (gsF rfl rfl) (kx (gsF rfl rfl) (kx (pkT rfl rfl rfl) (Rn (hA h1254 (hA h1255 (hA h1256 (hA h1257 (hA h1258 (hA h1259 (hV (.bool true) rfl hZ))))))) fun e1263 h1265 h1266 h1267 h1268 h1269 h1270 h1271 => ?_))))))))))
        clear h1254 h1255 h1256 h1257 h1258 h1259 h1260 h1261
        obtain rfl := si h
        exact kd (show laws_FnExactPassOn_c10_Q a1 a2 a3 r1064 r1065 r1066 r1067 r1068 r1127 (([] : Mem).length) M1109.length _ _ from ⟨rfl, h1265, h1266, h1267, h1268, h1269, h1270, h1271, o1249, o1251⟩)
       obtain ⟨r1273, hx1272, h⟩ := bind_some h
       refine kx (guF rfl hb1262 (ldOA (cs' := (.str ([] : List UInt8) :: (.bool false :: (.nils :: ((arC (cI .i8) 0 r1127) ++ ((.nils :: []) : List AV)))))) h1259 o1251 rfl rfl (ble rfl) rfl)) (kx (guF rfl hb1262 (ldOA (cs' := (.str r1064 :: (.bool r1065 :: (.sl none (r1066.map Notch.c) :: ((arC (cI .i8) 0 r1067) ++ ((.sl none (r1068.map Mark.c) :: []) : List AV)))))) h1257 o1249 rfl rfl (ble rfl) rfl)) (kc (Ev.guF rfl hb1262 (cl (v := .bool r1273) rfl (cns rfl (cns rfl rfl)) rfl (laws_eqChain_ok (Chain.mk ([] : List UInt8) (Half.mk false ([] : List Notch) r1127) ([] : List Mark)) (Chain.mk r1064 (Half.mk r1065 r1066 r1067) r1068) _ hx1272) nm)) (kx (guF rfl hb1262 (uNot rfl)) (kx (pkF rfl hb1262 rfl) (kx (mvO rfl) ?_)))))
       rcases ite_some h with ⟨hb1274, h⟩ | ⟨hb1274, h⟩
       ·refine kx (guF rfl (congrArg Bool.not hb1274) (mvO h1260)) (kx (guF rfl (congrArg Bool.not hb1274) (mvO h1258)) (kx (guF rfl (congrArg Bool.not hb1274) (bNeq rfl rfl)) (kx (pkF rfl (congrArg Bool.not hb1274) rfl) (Rn (hA h1254 (hA h1255 (hA h1256 (hA h1257 (hA h1258 (hA h1259 (hN rfl hZ))))))) fun e1275 h1277 h1278 h1279 h1280 h1281 h1282 h1283 => ?_))))
        clear h1254 h1255 h1256 h1257 h1258 h1259 h1260 h1261
        obtain rfl := si h
        exact kd (show laws_FnExactPassOn_c10_Q a1 a2 a3 r1064 r1065 r1066 r1067 r1068 r1127 (([] : Mem).length) M1109.length _ _ from ⟨rfl, h1277, h1278, h1279, h1280, h1281, h1282, h1283, o1249, o1251⟩)
       refine kx (gsF rfl (congrArg Bool.not hb1274)) (kx (gsF rfl (congrArg Bool.not hb1274)) (kx (gsF rfl (congrArg Bool.not hb1274)) (kx (pkT rfl (congrArg Bool.not hb1274) rfl) (Rn (hA h1254 (hA h1255 (hA h1256 (hA h1257 (hA h1258 (hA h1259 (hV (.bool true) rfl hZ))))))) fun e1284 h1286 h1287 h1288 h1289 h1290 h1291 h1292 => ?_))))
       clear h1254 h1255 h1256 h1257 h1258 h1259 h1260 h1261
       obtain rfl := si h
       exact kd (show laws_FnExactPassOn_c10_Q a1 a2 a3 r1064 r1065 r1066 r1067 r1068 r1127 (([] : Mem).length) M1109.length _ _ from ⟨rfl, h1286, h1287, h1288, h1289, h1290, h1291, h1292, o1249, o1251⟩)) ?_
   revert h hr1562
   revert r1561
   intro y1295 hr1562 h
   intro x e1293 M1294 hq1560
   obtain ⟨rfl, h1296, h1297, h1298, h1299, h1300, h1301, h1302, o1303, o1304⟩ := hq1560
   refine sN ?_
   rcases ite_some h with ⟨hb1305, h⟩ | ⟨hb1305, h⟩
   ·refine cT h1302 hb1305 (sq (Rg (kx (mvO rfl) (Rn (hV (.bool false) rfl hZ) fun e1306 h1308 => sN (xx (sR ?_))))))
    clear h1296 h1297 h1298 h1299 h1300 h1301 h1302
    obtain rfl := si h
    exact eR (resT h1308 res0) rfl
   obtain ⟨r1319, hx1318, h⟩ := bind_some h
   refine cF h1302 hb1305 (xx (sN (sq (Rg (kx (mvO rfl) (Rn (hV (.str a3) h1296 (hV (.pt none (.str a1.Debtor :: (.bool a1.Stock.Stock :: (.sl none (a1.Stock.Notches.map Notch.c) :: ((arC (cI .i8) 0 a1.Stock.Grain) ++ ((.sl none (a1.Marks.map Mark.c) :: []) : List AV)))))) h1297 (hV (.pt none [.str a2.Name, .int .u32 a2.Secret]) h1298 (hV (.loc ([] : Mem).length 1 0 0) h1299 (hV (.int .i64 0) h1300 (hV (.loc M1109.length 1 0 0) h1301 (hV (.int .i64 1) rfl hZ))))))) fun e1309 h1311 h1312 h1313 h1314 h1315 h1316 h1317 => sN (sq (Rg (kx (ldOA (cs' := (.str ([] : List UInt8) :: (.bool false :: (.nils :: ((arC (cI .i8) 0 r1127) ++ ((.nils :: []) : List AV)))))) h1316 o1304 rfl rfl (ble rfl) rfl) (kx (mvO h1317) (Ev.nxw (Ev.callW rfl (cns rfl (cns rfl rfl)) (laws_markChain_nn_ok ([] : List UInt8) false r1127 1 M1294 _ hx1318)) fun v1322 M1320 hq1321 => ?_)))))))))))
   clear h1296 h1297 h1298 h1299 h1300 h1301 h1302
   obtain ⟨hv1322, fr1323⟩ := hq1321
   have hv1322 : v1322 = .int .i64 r1319 := hv1322
   subst hv1322
   have o1324 : M1320[([] : Mem).length]? = some (.live ⟨.box, 34, 20, [(.str r1064 :: (.bool r1065 :: (.sl none (r1066.map Notch.c) :: ((arC (cI .i8) 0 r1067) ++ ((.sl none (r1068.map Mark.c) :: []) : List AV)))))]⟩) := fr1323 _ _ niN o1303
   have o1325 : M1320[M1109.length]? = some (.live ⟨.box, 34, 20, [(.str ([] : List UInt8) :: (.bool false :: (.nils :: ((arC (cI .i8) 0 r1127) ++ ((.nils :: []) : List AV)))))]⟩) := fr1323 _ _ niN o1304
   obtain ⟨r1346, hx1345, h⟩ := bind_some h
   refine kx (mvO rfl) (Rn (hA h1311 (hA h1312 (hA h1313 (hA h1314 (hA h1315 (hA h1316 (hN rfl hZ))))))) fun e1326 h1328 h1329 h1330 h1331 h1332 h1333 h1334 => sN (sq (Rg (kx (mvO rfl) (Rn (hA h1328 (hA h1329 (hA h1330 (hA h1331 (hA h1332 (hA h1333 (hA h1334 (hV (.int .i64 1) rfl hZ)))))))) fun e1335 h1337 h1338 h1339 h1340 h1341 h1342 h1343 h1344 => sN (sq (Rg (kx (ldOA (cs' := (.str ([] : List UInt8) :: (.bool false :: (.nils :: ((arC (cI .i8) 0 r1127) ++ ((.nils :: []) : List AV)))))) h1342 o1325 rfl rfl (ble rfl) rfl) (kx (mvO h1344) (kc (cl (v := .int .i64 r1346) rfl (cns rfl (cns rfl rfl)) rfl (laws_heldChain_ok (Chain.mk ([] : List UInt8) (Half.mk false ([] : List Notch) r1127) ([] : List Mark)) 1 _ hx1345) nm) (kx (mvO rfl) (Rn (hA h1337 (hA h1338 (hA h1339 (hA h1340 (hA h1341 (hA h1342 (hA h1343 (hN rfl hZ)))))))) fun e1347 h1349 h1350 h1351 h1352 h1353 h1354 h1355 h1356 => sN (sq (sq (Rg (kx (mvO h1356) (kx (bLss rfl rfl) (Rn (hA h1349 (hA h1350 (hA h1351 (hA h1352 (hA h1353 (hA h1354 (hA h1355 (hA h1356 (hN rfl hZ))))))))) fun e1357 h1359 h1360 h1361 h1362 h1363 h1364 h1365 h1366 h1367 => sN ?_))))))))))))))))))
   clear h1311 h1312 h1313 h1314 h1315 h1316 h1328 h1329 h1330 h1331 h1332 h1333 h1334 h1337 h1338 h1339 h1340 h1341 h1342 h1343 h1349 h1350 h1351 h1352 h1353 h1354 h1355 h1356
   rcases ite_some h with ⟨hb1368, h⟩ | ⟨hb1368, h⟩
   ·refine cT h1367 hb1368 (sq (Rg (kx (mvO rfl) (Rn (hV (.bool false) rfl hZ) fun e1369 h1371 => sN (xx (sR ?_))))))
    clear h1359 h1360 h1361 h1362 h1363 h1364 h1365 h1366 h1367
    obtain rfl := si h
    exact eR (resT h1371 res0) rfl
   refine cF h1367 hb1368 (xx (sN (sq (sq (Rg (kx (mvO h1366) (kx (mvO h1365) (kx (bNeq rfl rfl) (Rn (hA h1359 (hA h1360 (hA h1361 (hA h1362 (hA h1363 (hA h1364 (hA h1365 (hN rfl hZ)))))))) fun e1372 h1374 h1375 h1376 h1377 h1378 h1379 h1380 h1381 => sN ?_)))))))))
   clear h1359 h1360 h1361 h1362 h1363 h1364 h1365 h1366 h1367
   rcases ite_some h with ⟨hb1382, h⟩ | ⟨hb1382, h⟩
   ·refine cT h1381 hb1382 (sq (Rg (kx (mvO rfl) (Rn (hV (.bool false) rfl hZ) fun e1383 h1385 => sN (xx (sR ?_))))))
    clear h1374 h1375 h1376 h1377 h1378 h1379 h1380 h1381
    obtain rfl := si h
    exact eR (resT h1385 res0) rfl
   obtain ⟨⟨r1387, r1388, r1389, r1390, r1391⟩, hx1386, h⟩ := bind_some h
   obtain ⟨⟨r1393, r1394⟩, hx1392, h⟩ := bind_some h
   obtain ⟨q1559, hx1395, h⟩ := bind_some h
   refine cF h1381 hb1382 (xx (sN (sq (Rd (kf (ldPA h1375 rfl rfl) (fc (cl (v := .agg (.str r1387 :: (.bool r1388 :: (.sl (some 107) (r1389.map Notch.c) :: ((arC (cI .i8) 0 r1390) ++ ((.sl (some 39) (r1391.map Mark.c) :: []) : List AV)))))) rfl (cns rfl rfl) rfl (laws_toChain_ok a1 _ hx1386) nm) (kf (ldPA h1376 rfl rfl) (fc (cl (v := .agg [.str r1393, .int .u32 r1394]) rfl (cns rfl rfl) rfl (laws_toParty_ok a2 _ hx1392) nm) (kf (mvO h1374) ?_)))))))))
   rcases q1559 with ⟨r1396, r1397⟩ | ⟨r1476, r1477, r1478, r1479, r1480⟩
   ·refine fc (cl (v := .tup [.agg (.str ([] : List UInt8) :: (.bool false :: (.nils :: ((arC (cI .i8) 0 r1396) ++ ((.nils :: []) : List AV))))), .int .i64 r1397]) rfl (cns rfl (cns rfl (cns rfl rfl))) rfl (impl_PassOn_ok (Chain.mk r1387 (Half.mk r1388 r1389 r1390) r1391) (Party.mk r1393 r1394) a3 _ hx1395) nm) (kf (mvO rfl) (kf (exT rfl rfl) (kf (exT rfl rfl) (Ev.nfpushE (alO zero34) (Ev.fend1 fun M1399 hM1400 => ?_)))))
    have hM1400 := fendM hM1400 [⟨.box, 34, 20, [(.str ([] : List UInt8) :: (.bool false :: (.nils :: ((arC (cI .i8) 0 (Ar.rep 16 0)) ++ ((.nils :: []) : List AV)))))]⟩] rfl
    have o1401 := push_old hM1400 o1324
    have o1402 := push_old hM1400 o1325
    have ne1403 : ([] : Mem).length ≠ M1320.length := by have := lt_of_get (M := M1320) o1324; omega
    have ne1404 : M1109.length ≠ M1320.length := by have := lt_of_get (M := M1320) o1325; omega
    have o1405 : M1399[M1320.length]? = some (.live ⟨.box, 34, 20, [(.str ([] : List UInt8) :: (.bool false :: (.nils :: ((arC (cI .i8) 0 (Ar.rep 16 0)) ++ ((.nils :: []) : List AV)))))]⟩) := push_at hM1400 0 rfl
    refine kw (stO rfl rfl o1405 rfl rfl ⟨rfl, ble rfl⟩ rfl rfl) fun M1406 hM1407 => ?_
    have o1408 := set_ne hM1407 ne1403 o1401
    have o1409 := set_ne hM1407 ne1404 o1402
    have o1410 : M1406[M1320.length]? = some (.live ⟨.box, 34, 20, [(.str ([] : List UInt8) :: (.bool false :: (.nils :: ((arC (cI .i8) 0 r1396) ++ ((.nils :: []) : List AV)))))]⟩) := set_same hM1407 o1405
    obtain ⟨r1474, hr1475, h⟩ := bind_some h
    refine kx (mvO rfl) (Rn (hA h1377 (hA h1378 (hA h1379 (hA h1380 (hV (.loc M1320.length 1 0 0) rfl (hN rfl hZ)))))) fun e1411 h1413 h1414 h1415 h1416 h1417 h1418 => sN (sq (sq ?_)))
    clear h1374 h1375 h1376 h1377 h1378 h1379 h1380 h1381
    refine Ev.cut (Q1 := laws_FnExactPassOn_c11_Q r1127 r1319 (([] : Mem).length) M1109.length M1320.length r1474) (by
        have h := hr1475
        obtain ⟨r1420, hx1419, h⟩ := bind_some h
        refine Rg (kx (ldOA (cs' := (.str ([] : List UInt8) :: (.bool false :: (.nils :: ((arC (cI .i8) 0 r1396) ++ ((.nils :: []) : List AV)))))) h1417 o1410 rfl rfl (ble rfl) rfl) (kx (ldOA (cs' := (.str r1064 :: (.bool r1065 :: (.sl none (r1066.map Notch.c) :: ((arC (cI .i8) 0 r1067) ++ ((.sl none (r1068.map Mark.c) :: []) : List AV)))))) h1413 o1408 rfl rfl (ble rfl) rfl) (kc (cl (v := .bool r1420) rfl (cns rfl (cns rfl rfl)) rfl (laws_eqChain_ok (Chain.mk ([] : List UInt8) (Half.mk false ([] : List Notch) r1396) ([] : List Mark)) (Chain.mk r1064 (Half.mk r1065 r1066 r1067) r1068) _ hx1419) nm) (kx (uNot rfl) (kx (mvO rfl) ?_)))))
        rcases ite_some h with ⟨hb1421, h⟩ | ⟨hb1421, h⟩
        ·refine kx (guF rfl (congrArg Bool.not hb1421) (mvO h1418)) (kx (guF rfl (congrArg Bool.not hb1421) (mvO h1414)) (kx (guF rfl (congrArg Bool.not hb1421) (bNeq rfl rfl)) (kx (pkF rfl (congrArg Bool.not hb1421) rfl) (Rn (hA h1415 (hA h1416 (hN rfl hZ))) fun e1422 h1424 h1425 h1426 => ?_))))
         clear h1413 h1414 h1415 h1416 h1417 h1418
         obtain rfl := si h
         exact kd (show laws_FnExactPassOn_c11_Q r1127 r1319 (([] : Mem).length) M1109.length M1320.length _ _ from ⟨rfl, h1424, h1425, h1426, o1409⟩)
        refine kx (gsF rfl (congrArg Bool.not hb1421)) (kx (gsF rfl (congrArg Bool.not hb1421)) (kx (gsF rfl (congrArg Bool.not hb1421)) (kx (pkT rfl (congrArg Bool.not hb1421) rfl) (Rn (hA h1415 (hA h1416 (hV (.bool true) rfl hZ))) fun e1427 h1429 h1430 h1431 => ?_))))
        clear h1413 h1414 h1415 h1416 h1417 h1418
        obtain rfl := si h
        exact kd (show laws_FnExactPassOn_c11_Q r1127 r1319 (([] : Mem).length) M1109.length M1320.length _ _ from ⟨rfl, h1429, h1430, h1431, o1409⟩)) ?_
    revert h hr1475
    revert r1474
    intro y1434 hr1475 h
    intro x e1432 M1433 hq1473
    obtain ⟨rfl, h1435, h1436, h1437, o1438⟩ := hq1473
    refine sN ?_
    rcases ite_some h with ⟨hb1439, h⟩ | ⟨hb1439, h⟩
    ·refine cT h1437 hb1439 (sq (Rg (kx (mvO rfl) (Rn (hV (.bool false) rfl hZ) fun e1440 h1442 => sN (xx (sR ?_))))))
     clear h1435 h1436 h1437
     obtain rfl := si h
     exact eR (resT h1442 res0) rfl
    obtain ⟨r1449, hx1448, h⟩ := bind_some h
    refine cF h1437 hb1439 (xx (sN (sq (Rg (kx (mvO rfl) (Rn (hV (.loc M1109.length 1 0 0) h1435 (hV (.int .i64 r1319) h1436 (hV (.int .i64 1) rfl hZ))) fun e1443 h1445 h1446 h1447 => sN (sq (Rg (kx (ldOA (cs' := (.str ([] : List UInt8) :: (.bool false :: (.nils :: ((arC (cI .i8) 0 r1127) ++ ((.nils :: []) : List AV)))))) h1445 o1438 rfl rfl (ble rfl) rfl) (kx (mvO h1447) (kc (cl (v := .int .i64 r1449) rfl (cns rfl (cns rfl rfl)) rfl (laws_heldChain_ok (Chain.mk ([] : List UInt8) (Half.mk false ([] : List Notch) r1127) ([] : List Mark)) 1 _ hx1448) nm) (kx (mvO rfl) (Rn (hA h1446 (hN rfl hZ)) fun e1450 h1452 h1453 => sN (sq (sq (Rg (kx (mvO h1453) (kx (bLss rfl rfl) (Rn (hA h1452 (hA h1453 (hN rfl hZ))) fun e1454 h1456 h1457 h1458 => sN ?_)))))))))))))))))))
    clear h1435 h1436 h1437 h1445 h1446 h1452 h1453
    rcases ite_some h with ⟨hb1459, h⟩ | ⟨hb1459, h⟩
    ·refine cT h1458 hb1459 (sq (Rg (kx (mvO rfl) (Rn (hV (.bool false) rfl hZ) fun e1460 h1462 => sN (xx (sR ?_))))))
     clear h1456 h1457 h1458
     obtain rfl := si h
     exact eR (resT h1462 res0) rfl
    refine cF h1458 hb1459 (xx (sN (sq (sq (Rg (kx (mvO h1457) (kx (mvO h1456) (kx (bNeq rfl rfl) (Rn (hN rfl hZ) fun e1463 h1465 => sN ?_)))))))))
    clear h1456 h1457 h1458
    rcases ite_some h with ⟨hb1466, h⟩ | ⟨hb1466, h⟩
    ·refine cT h1465 hb1466 (sq (Rg (kx (mvO rfl) (Rn (hV (.bool false) rfl hZ) fun e1467 h1469 => sN (xx (sR ?_))))))
     clear h1465
     obtain rfl := si h
     exact eR (resT h1469 res0) rfl
    refine cF h1465 hb1466 (xx (sN (sq (Rg (kx (mvO rfl) (Rn (hV (.bool true) rfl hZ) fun e1470 h1472 => sN (xx ?_)))))))
    clear h1465
    obtain rfl := si h
    exact eR (resT h1472 res0) rfl
   refine fc (cl (v := .tup [.agg (.str r1476 :: (.bool r1477 :: (.sl (some 107) (r1478.map Notch.c) :: ((arC (cI .i8) 0 r1479) ++ ((.sl (some 39) (r1480.map Mark.c) :: []) : List AV))))), .int .i64 0]) rfl (cns rfl (cns rfl (cns rfl rfl))) rfl (impl_PassOn_ok (Chain.mk r1387 (Half.mk r1388 r1389 r1390) r1391) (Party.mk r1393 r1394) a3 _ hx1395) nm) (kf (mvO rfl) (kf (exT rfl rfl) (kf (exT rfl rfl) (Ev.nfpushE (alO zero34) (Ev.fend1 fun M1482 hM1483 => ?_)))))
   have hM1483 := fendM hM1483 [⟨.box, 34, 20, [(.str ([] : List UInt8) :: (.bool false :: (.nils :: ((arC (cI .i8) 0 (Ar.rep 16 0)) ++ ((.nils :: []) : List AV)))))]⟩] rfl
   have o1484 := push_old hM1483 o1324
   have o1485 := push_old hM1483 o1325
   have ne1486 : ([] : Mem).length ≠ M1320.length := by have := lt_of_get (M := M1320) o1324; omega
   have ne1487 : M1109.length ≠ M1320.length := by have := lt_of_get (M := M1320) o1325; omega
   have o1488 : M1482[M1320.length]? = some (.live ⟨.box, 34, 20, [(.str ([] : List UInt8) :: (.bool false :: (.nils :: ((arC (cI .i8) 0 (Ar.rep 16 0)) ++ ((.nils :: []) : List AV)))))]⟩) := push_at hM1483 0 rfl
   refine kw (stO rfl rfl o1488 rfl rfl ⟨rfl, ble rfl⟩ rfl rfl) fun M1489 hM1490 => ?_
   have o1491 := set_ne hM1490 ne1486 o1484
   have o1492 := set_ne hM1490 ne1487 o1485
   have o1493 : M1489[M1320.length]? = some (.live ⟨.box, 34, 20, [(.str r1476 :: (.bool r1477 :: (.sl none (r1478.map Notch.c) :: ((arC (cI .i8) 0 r1479) ++ ((.sl none (r1480.map Mark.c) :: []) : List AV)))))]⟩) := set_same hM1490 o1488
   obtain ⟨r1557, hr1558, h⟩ := bind_some h
   refine kx (mvO rfl) (Rn (hA h1377 (hA h1378 (hA h1379 (hA h1380 (hV (.loc M1320.length 1 0 0) rfl (hV (.int .i64 0) rfl hZ)))))) fun e1494 h1496 h1497 h1498 h1499 h1500 h1501 => sN (sq (sq ?_)))
   clear h1374 h1375 h1376 h1377 h1378 h1379 h1380 h1381
   refine Ev.cut (Q1 := laws_FnExactPassOn_c12_Q r1127 r1319 (([] : Mem).length) M1109.length M1320.length r1557) (by
       have h := hr1558
       obtain ⟨r1503, hx1502, h⟩ := bind_some h
       refine Rg (kx (ldOA (cs' := (.str r1476 :: (.bool r1477 :: (.sl none (r1478.map Notch.c) :: ((arC (cI .i8) 0 r1479) ++ ((.sl none (r1480.map Mark.c) :: []) : List AV)))))) h1500 o1493 rfl rfl (ble rfl) rfl) (kx (ldOA (cs' := (.str r1064 :: (.bool r1065 :: (.sl none (r1066.map Notch.c) :: ((arC (cI .i8) 0 r1067) ++ ((.sl none (r1068.map Mark.c) :: []) : List AV)))))) h1496 o1491 rfl rfl (ble rfl) rfl) (kc (cl (v := .bool r1503) rfl (cns rfl (cns rfl rfl)) rfl (laws_eqChain_ok (Chain.mk r1476 (Half.mk r1477 r1478 r1479) r1480) (Chain.mk r1064 (Half.mk r1065 r1066 r1067) r1068) _ hx1502) nm) (kx (uNot rfl) (kx (mvO rfl) ?_)))))
       rcases ite_some h with ⟨hb1504, h⟩ | ⟨hb1504, h⟩
       ·refine kx (guF rfl (congrArg Bool.not hb1504) (mvO h1501)) (kx (guF rfl (congrArg Bool.not hb1504) (mvO h1497)) (kx (guF rfl (congrArg Bool.not hb1504) (bNeq rfl rfl)) (kx (pkF rfl (congrArg Bool.not hb1504) rfl) (Rn (hA h1498 (hA h1499 (hV (.bool false) rfl hZ))) fun e1505 h1507 h1508 h1509 => ?_))))
        clear h1496 h1497 h1498 h1499 h1500 h1501
        obtain rfl := si h
        exact kd (show laws_FnExactPassOn_c12_Q r1127 r1319 (([] : Mem).length) M1109.length M1320.length _ _ from ⟨rfl, h1507, h1508, h1509, o1492⟩)
       refine kx (gsF rfl (congrArg Bool.not hb1504)) (kx (gsF rfl (congrArg Bool.not hb1504)) (kx (gsF rfl (congrArg Bool.not hb1504)) (kx (pkT rfl (congrArg Bool.not hb1504) rfl) (Rn (hA h1498 (hA h1499 (hV (.bool true) rfl hZ))) fun e1510 h1512 h1513 h1514 => ?_))))
       clear h1496 h1497 h1498 h1499 h1500 h1501
       obtain rfl := si h
       exact kd (show laws_FnExactPassOn_c12_Q r1127 r1319 (([] : Mem).length) M1109.length M1320.length _ _ from ⟨rfl, h1512, h1513, h1514, o1492⟩)) ?_
   revert h hr1558
   revert r1557
   intro y1517 hr1558 h
   intro x e1515 M1516 hq1556
   obtain ⟨rfl, h1518, h1519, h1520, o1521⟩ := hq1556
   refine sN ?_
   rcases ite_some h with ⟨hb1522, h⟩ | ⟨hb1522, h⟩
   ·refine cT h1520 hb1522 (sq (Rg (kx (mvO rfl) (Rn (hV (.bool false) rfl hZ) fun e1523 h1525 => sN (xx (sR ?_))))))
    clear h1518 h1519 h1520
    obtain rfl := si h
    exact eR (resT h1525 res0) rfl
   obtain ⟨r1532, hx1531, h⟩ := bind_some h
   refine cF h1520 hb1522 (xx (sN (sq (Rg (kx (mvO rfl) (Rn (hV (.loc M1109.length 1 0 0) h1518 (hV (.int .i64 r1319) h1519 (hV (.int .i64 1) rfl hZ))) fun e1526 h1528 h1529 h1530 => sN (sq (Rg (kx (ldOA (cs' := (.str ([] : List UInt8) :: (.bool false :: (.nils :: ((arC (cI .i8) 0 r1127) ++ ((.nils :: []) : List AV)))))) h1528 o1521 rfl rfl (ble rfl) rfl) (kx (mvO h1530) (kc (cl (v := .int .i64 r1532) rfl (cns rfl (cns rfl rfl)) rfl (laws_heldChain_ok (Chain.mk ([] : List UInt8) (Half.mk false ([] : List Notch) r1127) ([] : List Mark)) 1 _ hx1531) nm) (kx (mvO rfl) (Rn (hA h1529 (hN rfl hZ)) fun e1533 h1535 h1536 => sN (sq (sq (Rg (kx (mvO h1536) (kx (bLss rfl rfl) (Rn (hA h1535 (hA h1536 (hN rfl hZ))) fun e1537 h1539 h1540 h1541 => sN ?_)))))))))))))))))))
   clear h1518 h1519 h1520 h1528 h1529 h1535 h1536
   rcases ite_some h with ⟨hb1542, h⟩ | ⟨hb1542, h⟩
   ·refine cT h1541 hb1542 (sq (Rg (kx (mvO rfl) (Rn (hV (.bool false) rfl hZ) fun e1543 h1545 => sN (xx (sR ?_))))))
    clear h1539 h1540 h1541
    obtain rfl := si h
    exact eR (resT h1545 res0) rfl
   refine cF h1541 hb1542 (xx (sN (sq (sq (Rg (kx (mvO h1540) (kx (mvO h1539) (kx (bNeq rfl rfl) (Rn (hN rfl hZ) fun e1546 h1548 => sN ?_)))))))))
   clear h1539 h1540 h1541
   rcases ite_some h with ⟨hb1549, h⟩ | ⟨hb1549, h⟩
   ·refine cT h1548 hb1549 (sq (Rg (kx (mvO rfl) (Rn (hV (.bool false) rfl hZ) fun e1550 h1552 => sN (xx (sR ?_))))))
    clear h1548
    obtain rfl := si h
    exact eR (resT h1552 res0) rfl
   refine cF h1548 hb1549 (xx (sN (sq (Rg (kx (mvO rfl) (Rn (hV (.bool true) rfl hZ) fun e1553 h1555 => sN (xx ?_)))))))
   clear h1548
   obtain rfl := si h
   exact eR (resT h1555 res0) rfl
  refine cT h1222 (congrArg Bool.not hb1223) (sq (Rg (kx (mvO rfl) (Rn (hV (.bool false) rfl hZ) fun e1563 h1565 => sN (xx (sR ?_))))))
  clear h1214 h1215 h1216 h1217 h1218 h1219 h1220 h1221 h1222
  obtain rfl := si h
  exact eR (resT h1565 res0) rfl
 refine Ev.nfcpE (Ev.callT (v := .tup [.agg (.str r1569 :: (.bool r1570 :: (.sl (some 107) (r1571.map Notch.c) :: ((arC (cI .i8) 0 r1572) ++ ((.sl (some 39) (r1573.map Mark.c) :: []) : List AV))))), .int .i64 0]) rfl (cns rfl (cns rfl (cns rfl rfl))) (ra1 (ra_agg (mp1 rfl (mp1 rfl (mp1 (ra1_row o1112 rfl Notch.fl) (mpA (fun _ => rArg1_flat) (fun _ => rfl) (mp1 (ra1_row o1113 rfl Mark.fl) mp0)))))) (ra1 rfl (ra1 rfl ra0))) (impl_PassOn_ok (Chain.mk r1084 (Half.mk r1085 r1086 r1087) r1088) (Party.mk r1124 r1125) a3 _ hx1126) (th_gen (v' := .tup [.agg (.str r1569 :: (.bool r1570 :: (.lsl M1109.length r1571.length 0 r1571.length :: ((arC (cI .i8) 0 r1572) ++ ((.lsl (M1109.length + 1) r1573.length 0 r1573.length :: []) : List AV))))), .int .i64 0]) (l := [⟨.grow, 107, 2, r1571.map Notch.c⟩, ⟨.grow, 39, 2, r1573.map Mark.c⟩]) (own_tup (oa1 (own2_agg (oa1 rfl (oa1 rfl (oa1 (own1_row' (c := Notch.c) Notch.flF) (oaA (fun _ => own1_flat) (fun _ => rfl) (oa1 (own1_row' (c := Mark.c) Mark.flF) oa0)))))) (oa1 rfl oa0))) (by simp [thaw, thaw2, thaw1, thawL, co107, co39, thA (c := (cI .i8)) (fun _ => rfl), thA0 (c := (cI .i8)) (fun _ => rfl)]) rfl rfl)) (kf (mvO rfl) (kf (exT rfl rfl) (kf (exT rfl rfl) (Ev.nfpushE (alO zero34) (Ev.fend1 fun M1577 hM1578 => ?_)))))
 have hM1578 := fendM hM1578 [⟨.grow, 107, 2, r1571.map Notch.c⟩, ⟨.grow, 39, 2, r1573.map Mark.c⟩, ⟨.box, 34, 20, [(.str ([] : List UInt8) :: (.bool false :: (.nils :: ((arC (cI .i8) 0 (Ar.rep 16 0)) ++ ((.nils :: []) : List AV)))))]⟩] rfl
 have o1579 := push_old hM1578 o1111
 have o1580 := push_old hM1578 o1112
 have o1581 := push_old hM1578 o1113
 have o1582 := push_old hM1578 o1114
 have ne1583 : ([] : Mem).length ≠ M1109.length := by have := lt_of_get (M := M1109) o1111; omega
 have ne1584 : M1073.length ≠ M1109.length := by have := lt_of_get (M := M1109) o1112; omega
 have ne1585 : (M1073.length + 1) ≠ M1109.length := by have := lt_of_get (M := M1109) o1113; omega
 have ne1586 : M1091.length ≠ M1109.length := by have := lt_of_get (M := M1109) o1114; omega
 have o1587 : M1577[M1109.length]? = some (.live ⟨.grow, 107, 2, r1571.map Notch.c⟩) := push_at hM1578 0 rfl
 have ne1588 : ([] : Mem).length ≠ (M1109.length + 1) := by have := lt_of_get (M := M1109) o1111; omega
 have ne1589 : M1073.length ≠ (M1109.length + 1) := by have := lt_of_get (M := M1109) o1112; omega
 have ne1590 : (M1073.length + 1) ≠ (M1109.length + 1) := by have := lt_of_get (M := M1109) o1113; omega
 have ne1591 : M1091.length ≠ (M1109.length + 1) := by have := lt_of_get (M := M1109) o1114; omega
 have ne1592 : M1109.length ≠ (M1109.length + 1) := by omega
 have o1593 : M1577[(M1109.length + 1)]? = some (.live ⟨.grow, 39, 2, r1573.map Mark.c⟩) := push_at hM1578 1 rfl
 have ne1594 : ([] : Mem).length ≠ (M1109.length + 2) := by have := lt_of_get (M := M1109) o1111; omega
 have ne1595 : M1073.length ≠ (M1109.length + 2) := by have := lt_of_get (M := M1109) o1112; omega
 have ne1596 : (M1073.length + 1) ≠ (M1109.length + 2) := by have := lt_of_get (M := M1109) o1113; omega
 have ne1597 : M1091.length ≠ (M1109.length + 2) := by have := lt_of_get (M := M1109) o1114; omega
 have ne1598 : M1109.length ≠ (M1109.length + 2) := by omega
 have ne1599 : (M1109.length + 1) ≠ (M1109.length + 2) := by omega
 have o1600 : M1577[(M1109.length + 2)]? = some (.live ⟨.box, 34, 20, [(.str ([] : List UInt8) :: (.bool false :: (.nils :: ((arC (cI .i8) 0 (Ar.rep 16 0)) ++ ((.nils :: []) : List AV)))))]⟩) := push_at hM1578 2 rfl
 refine kw (stO rfl rfl o1600 rfl rfl ⟨rfl, ble rfl⟩ (all1 rfl (all1 rfl (all1 (okL o1587 (by simp)) (oaS (rest := [.lsl (M1109.length + 1) r1573.length 0 r1573.length]) (fun _ => rfl) (all1 (okL o1593 (by simp)) all0))))) rfl) fun M1601 hM1602 => ?_
 have o1603 := set_ne hM1602 ne1594 o1579
 have o1604 := set_ne hM1602 ne1595 o1580
 have o1605 := set_ne hM1602 ne1596 o1581
 have o1606 := set_ne hM1602 ne1597 o1582
 have o1607 := set_ne hM1602 ne1598 o1587
 have o1608 := set_ne hM1602 ne1599 o1593
 have o1609 : M1601[(M1109.length + 2)]? = some (.live ⟨.box, 34, 20, [(.str r1569 :: (.bool r1570 :: (.lsl M1109.length r1571.length 0 r1571.length :: ((arC (cI .i8) 0 r1572) ++ ((.lsl (M1109.length + 1) r1573.length 0 r1573.length :: []) : List AV)))))]⟩) := set_same hM1602 o1600
 obtain ⟨r2059, hr2060, h⟩ := bind_some h
 refine kx (mvO rfl) (Rn (hA h1117 (hA h1118 (hA h1119 (hA h1120 (hA h1121 (hA h1122 (hV (.loc (M1109.length + 2) 1 0 0) rfl (hV (.int .i64 0) rfl hZ)))))))) fun e1610 h1612 h1613 h1614 h1615 h1616 h1617 h1618 h1619 => sN (sq (sq ?_)))
 clear h1117 h1118 h1119 h1120 h1121 h1122
 refine Ev.cut (Q1 := laws_FnExactPassOn_c13_Q a1 a2 a3 r1064 r1065 r1066 r1067 r1068 r1084 r1085 r1086 r1087 r1088 r1569 r1570 r1571 r1572 r1573 (([] : Mem).length) M1073.length (M1073.length + 1) M1091.length M1109.length (M1109.length + 1) (M1109.length + 2) r2059) (by
     have h := hr2060
     obtain ⟨r1621, hx1620, h⟩ := bind_some h
     refine Rg (kx (ldOA (cs' := (.str r1569 :: (.bool r1570 :: (.lsl M1109.length r1571.length 0 r1571.length :: ((arC (cI .i8) 0 r1572) ++ ((.lsl (M1109.length + 1) r1573.length 0 r1573.length :: []) : List AV)))))) h1618 o1609 rfl rfl (ble rfl) rfl) (kx (ldOA (cs' := (.str r1064 :: (.bool r1065 :: (.sl none (r1066.map Notch.c) :: ((arC (cI .i8) 0 r1067) ++ ((.sl none (r1068.map Mark.c) :: []) : List AV)))))) h1615 o1603 rfl rfl (ble rfl) rfl) (kc (cl (v := .bool r1621) rfl (cns rfl (cns rfl rfl)) (ra1 (ra_agg (mp1 rfl (mp1 rfl (mp1 (ra1_row o1607 rfl Notch.fl) (mpA (fun _ => rArg1_flat) (fun _ => rfl) (mp1 (ra1_row o1608 rfl Mark.fl) mp0)))))) (ra1 rfl ra0)) (laws_eqChain_ok (Chain.mk r1569 (Half.mk r1570 r1571 r1572) r1573) (Chain.mk r1064 (Half.mk r1065 r1066 r1067) r1068) _ hx1620) (fun _ => rfl)) (kx (uNot rfl) (kx (mvO rfl) ?_)))))
     rcases ite_some h with ⟨hb1622, h⟩ | ⟨hb1622, h⟩
     ·refine kx (guF rfl (congrArg Bool.not hb1622) (mvO h1619)) (kx (guF rfl (congrArg Bool.not hb1622) (mvO h1616)) (kx (guF rfl (congrArg Bool.not hb1622) (bNeq rfl rfl)) (kx (pkF rfl (congrArg Bool.not hb1622) rfl) (Rn (hA h1612 (hA h1613 (hA h1614 (hA h1615 (hA h1616 (hA h1617 (hA h1618 (hA h1619 (hV (.bool false) rfl hZ))))))))) fun e1623 h1625 h1626 h1627 h1628 h1629 h1630 h1631 h1632 h1633 => ?_))))
      clear h1612 h1613 h1614 h1615 h1616 h1617 h1618 h1619
      obtain rfl := si h
      exact kd (show laws_FnExactPassOn_c13_Q a1 a2 a3 r1064 r1065 r1066 r1067 r1068 r1084 r1085 r1086 r1087 r1088 r1569 r1570 r1571 r1572 r1573 (([] : Mem).length) M1073.length (M1073.length + 1) M1091.length M1109.length (M1109.length + 1) (M1109.length + 2) _ _ from ⟨rfl, h1625, h1626, h1627, h1628, h1629, h1630, h1631, h1632, h1633, o1603, o1604, o1605, o1606, o1607, o1608, o1609⟩)
     refine kx (gsF rfl (congrArg Bool.not hb1622)) (kx (gsF rfl (congrArg Bool.not hb1622)) (kx (gsF rfl (congrArg Bool.not hb1622)) (kx (pkT rfl (congrArg Bool.not hb1622) rfl) (Rn (hA h1612 (hA h1613 (hA h1614 (hA h1615 (hA h1616 (hA h1617 (hA h1618 (hA h1619 (hV (.bool true) rfl hZ))))))))) fun e1634 h1636 h1637 h1638 h1639 h1640 h1641 h1642 h1643 h1644 => ?_))))
     clear h1612 h1613 h1614 h1615 h1616 h1617 h1618 h1619
     obtain rfl := si h
     exact kd (show laws_FnExactPassOn_c13_Q a1 a2 a3 r1064 r1065 r1066 r1067 r1068 r1084 r1085 r1086 r1087 r1088 r1569 r1570 r1571 r1572 r1573 (([] : Mem).length) M1073.length (M1073.length + 1) M1091.length M1109.length (M1109.length + 1) (M1109.length + 2) _ _ from ⟨rfl, h1636, h1637, h1638, h1639, h1640, h1641, h1642, h1643, h1644, o1603, o1604, o1605, o1606, o1607, o1608, o1609⟩)) ?_
 revert h hr2060
 revert r2059
 intro y1647 hr2060 h
 intro x e1645 M1646 hq2058
 obtain ⟨rfl, h1648, h1649, h1650, h1651, h1652, h1653, h1654, h1655, h1656, o1657, o1658, o1659, o1660, o1661, o1662, o1663⟩ := hq2058
 refine sN ?_
 rcases ite_some h with ⟨hb1664, h⟩ | ⟨hb1664, h⟩
 ·refine cT h1656 hb1664 (sq (Rg (kx (mvO rfl) (Rn (hV (.bool false) rfl hZ) fun e1665 h1667 => sN (xx (sR ?_))))))
  clear h1648 h1649 h1650 h1651 h1652 h1653 h1654 h1655 h1656
  obtain rfl := si h
  exact eR (resT h1667 res0) rfl
 obtain ⟨⟨r1669, r1670, r1671, r1672, r1673⟩, hx1668, h⟩ := bind_some h
 obtain ⟨r1675, hx1674, h⟩ := bind_some h
 refine cF h1656 hb1664 (xx (sN (sq (sq (Rd (kf (ldOA (cs' := (.str r1084 :: (.bool r1085 :: (.lsl M1073.length r1086.length 0 r1086.length :: ((arC (cI .i8) 0 r1087) ++ ((.lsl (M1073.length + 1) r1088.length 0 r1088.length :: []) : List AV)))))) h1653 o1660 rfl rfl (ble rfl) rfl) (kf (ldPA h1649 rfl rfl) (fc (cl (v := .agg (.str r1669 :: (.bool r1670 :: (.sl (some 107) (r1671.map Notch.c) :: ((arC (cI .i8) 0 r1672) ++ ((.sl (some 39) (r1673.map Mark.c) :: []) : List AV)))))) rfl (cns rfl rfl) rfl (laws_toChain_ok a1 _ hx1668) nm) (fc (cl (v := .bool r1675) rfl (cns rfl (cns rfl rfl)) (ra1 (ra_agg (mp1 rfl (mp1 rfl (mp1 (ra1_row o1658 rfl Notch.fl) (mpA (fun _ => rArg1_flat) (fun _ => rfl) (mp1 (ra1_row o1659 rfl Mark.fl) mp0)))))) (ra1 rfl ra0)) (laws_eqChain_ok (Chain.mk r1084 (Half.mk r1085 r1086 r1087) r1088) (Chain.mk r1669 (Half.mk r1670 r1671 r1672) r1673) _ hx1674) (fun _ => rfl)) (kf (uNot rfl) (fZ (Rn (hV (.str a3) h1648 (hV (.pt none (.str a1.Debtor :: (.bool a1.Stock.Stock :: (.sl none (a1.Stock.Notches.map Notch.c) :: ((arC (cI .i8) 0 a1.Stock.Grain) ++ ((.sl none (a1.Marks.map Mark.c) :: []) : List AV)))))) h1649 (hV (.pt none [.str a2.Name, .int .u32 a2.Secret]) h1650 (hV (.loc ([] : Mem).length 1 0 0) h1651 (hV (.int .i64 0) h1652 (hV (.loc M1091.length 1 0 0) h1653 (hV (.loc (M1109.length + 2) 1 0 0) h1654 (hV (.int .i64 0) h1655 (hN rfl hZ))))))))) fun e1676 h1678 h1679 h1680 h1681 h1682 h1683 h1684 h1685 h1686 => sN ?_))))))))))))
 clear h1648 h1649 h1650 h1651 h1652 h1653 h1654 h1655 h1656
 rcases ite_some h with ⟨hb1687, h⟩ | ⟨hb1687, h⟩
 ·obtain ⟨⟨r1700, r1701, r1702⟩, hx1699, h⟩ := bind_some h
  refine cF h1686 (congrArg Bool.not hb1687) (xx (sN (sq (Rg (kx (mvO rfl) (Rn (hA h1678 (hA h1679 (hA h1680 (hA h1681 (hA h1682 (hA h1683 (hA h1684 (hA h1685 (hV (.int .i64 1) rfl hZ))))))))) fun e1688 h1690 h1691 h1692 h1693 h1694 h1695 h1696 h1697 h1698 => sN (sq (Rg (kx (ldOA (cs' := (.str r1084 :: (.bool r1085 :: (.lsl M1073.length r1086.length 0 r1086.length :: ((arC (cI .i8) 0 r1087) ++ ((.lsl (M1073.length + 1) r1088.length 0 r1088.length :: []) : List AV)))))) h1695 o1660 rfl rfl (ble rfl) rfl) (kx (mvO h1698) (Ev.nxw (Ev.callW rfl (cns rfl (cns rfl rfl)) (laws_markChain_ll_ok r1084 r1085 r1086 r1087 r1088 1 M1073.length (M1073.length + 1) ne1097 M1646 o1658 o1659 _ hx1699)) fun v1705 M1703 hq1704 => ?_)))))))))))
  clear h1678 h1679 h1680 h1681 h1682 h1683 h1684 h1685 h1686
  obtain ⟨hv1705, o1706, o1707, fr1708, hl1709, hl1710⟩ := hq1704
  have hv1705 : v1705 = .int .i64 r1700 := hv1705
  subst hv1705
  have o1711 : M1703[M1073.length]? = some (.live ⟨.grow, 107, 2, r1701.map Notch.c⟩) := o1706
  have o1712 : M1703[(M1073.length + 1)]? = some (.live ⟨.grow, 39, 2, r1702.map Mark.c⟩) := o1707
  have hl1709 : r1701.length = r1086.length := hl1709
  have hl1710 : r1702.length = r1088.length := hl1710
  have o1713 : M1703[([] : Mem).length]? = some (.live ⟨.box, 34, 20, [(.str r1064 :: (.bool r1065 :: (.sl none (r1066.map Notch.c) :: ((arC (cI .i8) 0 r1067) ++ ((.sl none (r1068.map Mark.c) :: []) : List AV)))))]⟩) := fr1708 _ _ (niC ne1094 (niC ne1096 niN)) o1657
  have o1714 : M1703[M1091.length]? = some (.live ⟨.box, 34, 20, [(.str r1084 :: (.bool r1085 :: (.lsl M1073.length r1086.length 0 r1086.length :: ((arC (cI .i8) 0 r1087) ++ ((.lsl (M1073.length + 1) r1088.length 0 r1088.length :: []) : List AV)))))]⟩) := fr1708 _ _ (niC (Ne.symm ne1105) (niC (Ne.symm ne1107) niN)) o1660
  have o1715 : M1703[M1109.length]? = some (.live ⟨.grow, 107, 2, r1571.map Notch.c⟩) := fr1708 _ _ (niC (Ne.symm ne1584) (niC (Ne.symm ne1585) niN)) o1661
  have o1716 : M1703[(M1109.length + 1)]? = some (.live ⟨.grow, 39, 2, r1573.map Mark.c⟩) := fr1708 _ _ (niC (Ne.symm ne1589) (niC (Ne.symm ne1590) niN)) o1662
  have o1717 : M1703[(M1109.length + 2)]? = some (.live ⟨.box, 34, 20, [(.str r1569 :: (.bool r1570 :: (.lsl M1109.length r1571.length 0 r1571.length :: ((arC (cI .i8) 0 r1572) ++ ((.lsl (M1109.length + 1) r1573.length 0 r1573.length :: []) : List AV)))))]⟩) := fr1708 _ _ (niC (Ne.symm ne1595) (niC (Ne.symm ne1596) niN)) o1663
  obtain ⟨r2053, hr2054, h⟩ := bind_some h
  refine kx (mvO rfl) (Rn (hA h1690 (hA h1691 (hA h1692 (hA h1693 (hA h1694 (hA h1696 (hA h1697 (hN rfl hZ)))))))) fun e1718 h1720 h1721 h1722 h1723 h1724 h1725 h1726 h1727 => sN (sq (sq ?_)))
  clear h1690 h1691 h1692 h1693 h1694 h1695 h1696 h1697
  refine Ev.cut (Q1 := laws_FnExactPassOn_c14_Q a1 a2 a3 r1064 r1065 r1066 r1067 r1068 r1569 r1570 r1571 r1572 r1573 (([] : Mem).length) M1109.length (M1109.length + 1) (M1109.length + 2) r2053) (by
      have h := hr2054
      refine Rg (kx (mvO h1727) (kx (bLss rfl rfl) (kx (mvO rfl) ?_)))
      rcases ite_some h with ⟨hb1728, h⟩ | ⟨hb1728, h⟩
      ·refine kx (gsF rfl hb1728) (kx (gsF rfl hb1728) (kc (Ev.gsF rfl hb1728) (kx (gsF rfl hb1728) (kx (pkT rfl hb1728 rfl) (kx (mvO rfl) (kx (gsF rfl rfl) (kx (gsF rfl rfl) (kx (gsF rfl rfl) (kx (pkT rfl rfl rfl) (Rn (hA h1720 (hA h1721 (hA h1722 (hA h1723 (hA h1724 (hA h1725 (hV (.bool true) rfl hZ))))))) fun e1729 h1731 h1732 h1733 h1734 h1735 h1736 h1737 => ?_))))))))))
       clear h1720 h1721 h1722 h1723 h1724 h1725 h1726 h1727
       obtain rfl := si h
       exact kd (show laws_FnExactPassOn_c14_Q a1 a2 a3 r1064 r1065 r1066 r1067 r1068 r1569 r1570 r1571 r1572 r1573 (([] : Mem).length) M1109.length (M1109.length + 1) (M1109.length + 2) _ _ from ⟨rfl, h1731, h1732, h1733, h1734, h1735, h1736, h1737, o1713, o1715, o1716, o1717⟩)
      obtain ⟨r1739, hx1738, h⟩ := bind_some h
      refine kx (guF rfl hb1728 (ldOA (cs' := (.str r1569 :: (.bool r1570 :: (.lsl M1109.length r1571.length 0 r1571.length :: ((arC (cI .i8) 0 r1572) ++ ((.lsl (M1109.length + 1) r1573.length 0 r1573.length :: []) : List AV)))))) h1725 o1717 rfl rfl (ble rfl) rfl)) (kx (guF rfl hb1728 (ldOA (cs' := (.str r1064 :: (.bool r1065 :: (.sl none (r1066.map Notch.c) :: ((arC (cI .i8) 0 r1067) ++ ((.sl none (r1068.map Mark.c) :: []) : List AV)))))) h1723 o1713 rfl rfl (ble rfl) rfl)) (kc (Ev.guF rfl hb1728 (cl (v := .bool r1739) rfl (cns rfl (cns rfl rfl)) (ra1 (ra_agg (mp1 rfl (mp1 rfl (mp1 (ra1_row o1715 rfl Notch.fl) (mpA (fun _ => rArg1_flat) (fun _ => rfl) (mp1 (ra1_row o1716 rfl Mark.fl) mp0)))))) (ra1 rfl ra0)) (laws_eqChain_ok (Chain.mk r1569 (Half.mk r1570 r1571 r1572) r1573) (Chain.mk r1064 (Half.mk r1065 r1066 r1067) r1068) _ hx1738) (fun _ => rfl))) (kx (guF rfl hb1728 (uNot rfl)) (kx (pkF rfl hb1728 rfl) (kx (mvO rfl) ?_)))))
      rcases ite_some h with ⟨hb1740, h⟩ | ⟨hb1740, h⟩
      ·refine kx (guF rfl (congrArg Bool.not hb1740) (mvO h1726)) (kx (guF rfl (congrArg Bool.not hb1740) (mvO h1724)) (kx (guF rfl (congrArg Bool.not hb1740) (bNeq rfl rfl)) (kx (pkF rfl (congrArg Bool.not hb1740) rfl) (Rn (hA h1720 (hA h1721 (hA h1722 (hA h1723 (hA h1724 (hA h1725 (hV (.bool false) rfl hZ))))))) fun e1741 h1743 h1744 h1745 h1746 h1747 h1748 h1749 => ?_))))
       clear h1720 h1721 h1722 h1723 h1724 h1725 h1726 h1727
       obtain rfl := si h
       exact kd (show laws_FnExactPassOn_c14_Q a1 a2 a3 r1064 r1065 r1066 r1067 r1068 r1569 r1570 r1571 r1572 r1573 (([] : Mem).length) M1109.length (M1109.length + 1) (M1109.length + 2) _ _ from ⟨rfl, h1743, h1744, h1745, h1746, h1747, h1748, h1749, o1713, o1715, o1716, o1717⟩)
      refine kx (gsF rfl (congrArg Bool.not hb1740)) (kx (gsF rfl (congrArg Bool.not hb1740)) (kx (gsF rfl (congrArg Bool.not hb1740)) (kx (pkT rfl (congrArg Bool.not hb1740) rfl) (Rn (hA h1720 (hA h1721 (hA h1722 (hA h1723 (hA h1724 (hA h1725 (hV (.bool true) rfl hZ))))))) fun e1750 h1752 h1753 h1754 h1755 h1756 h1757 h1758 => ?_))))
      clear h1720 h1721 h1722 h1723 h1724 h1725 h1726 h1727
      obtain rfl := si h
      exact kd (show laws_FnExactPassOn_c14_Q a1 a2 a3 r1064 r1065 r1066 r1067 r1068 r1569 r1570 r1571 r1572 r1573 (([] : Mem).length) M1109.length (M1109.length + 1) (M1109.length + 2) _ _ from ⟨rfl, h1752, h1753, h1754, h1755, h1756, h1757, h1758, o1713, o1715, o1716, o1717⟩)) ?_
  revert h hr2054
  revert r2053
  intro y1761 hr2054 h
  intro x e1759 M1760 hq2052
  obtain ⟨rfl, h1762, h1763, h1764, h1765, h1766, h1767, h1768, o1769, o1770, o1771, o1772⟩ := hq2052
  refine sN ?_
  rcases ite_some h with ⟨hb1773, h⟩ | ⟨hb1773, h⟩
  ·refine cT h1768 hb1773 (sq (Rg (kx (mvO rfl) (Rn (hV (.bool false) rfl hZ) fun e1774 h1776 => sN (xx (sR ?_))))))
   clear h1762 h1763 h1764 h1765 h1766 h1767 h1768
   obtain rfl := si h
   exact eR (resT h1776 res0) rfl
  obtain ⟨⟨r1787, r1788, r1789⟩, hx1786, h⟩ := bind_some h
  refine cF h1768 hb1773 (xx (sN (sq (Rg (kx (mvO rfl) (Rn (hV (.str a3) h1762 (hV (.pt none (.str a1.Debtor :: (.bool a1.Stock.Stock :: (.sl none (a1.Stock.Notches.map Notch.c) :: ((arC (cI .i8) 0 a1.Stock.Grain) ++ ((.sl none (a1.Marks.map Mark.c) :: []) : List AV)))))) h1763 (hV (.pt none [.str a2.Name, .int .u32 a2.Secret]) h1764 (hV (.loc ([] : Mem).length 1 0 0) h1765 (hV (.int .i64 0) h1766 (hV (.loc (M1109.length + 2) 1 0 0) h1767 (hV (.int .i64 1) rfl hZ))))))) fun e1777 h1779 h1780 h1781 h1782 h1783 h1784 h1785 => sN (sq (Rg (kx (ldOA (cs' := (.str r1569 :: (.bool r1570 :: (.lsl M1109.length r1571.length 0 r1571.length :: ((arC (cI .i8) 0 r1572) ++ ((.lsl (M1109.length + 1) r1573.length 0 r1573.length :: []) : List AV)))))) h1784 o1772 rfl rfl (ble rfl) rfl) (kx (mvO h1785) (Ev.nxw (Ev.callW rfl (cns rfl (cns rfl rfl)) (laws_markChain_ll_ok r1569 r1570 r1571 r1572 r1573 1 M1109.length (M1109.length + 1) ne1592 M1760 o1770 o1771 _ hx1786)) fun v1792 M1790 hq1791 => ?_)))))))))))
  clear h1762 h1763 h1764 h1765 h1766 h1767 h1768
  obtain ⟨hv1792, o1793, o1794, fr1795, hl1796, hl1797⟩ := hq1791
  have hv1792 : v1792 = .int .i64 r1787 := hv1792
  subst hv1792
  have o1798 : M1790[M1109.length]? = some (.live ⟨.grow, 107, 2, r1788.map Notch.c⟩) := o1793
  have o1799 : M1790[(M1109.length + 1)]? = some (.live ⟨.grow, 39, 2, r1789.map Mark.c⟩) := o1794
  have hl1796 : r1788.length = r1571.length := hl1796
  have hl1797 : r1789.length = r1573.length := hl1797
  have o1800 : M1790[([] : Mem).length]? = some (.live ⟨.box, 34, 20, [(.str r1064 :: (.bool r1065 :: (.sl none (r1066.map Notch.c) :: ((arC (cI .i8) 0 r1067) ++ ((.sl none (r1068.map Mark.c) :: []) : List AV)))))]⟩) := fr1795 _ _ (niC ne1583 (niC ne1588 niN)) o1769
  have o1801 : M1790[(M1109.length + 2)]? = some (.live ⟨.box, 34, 20, [(.str r1569 :: (.bool r1570 :: (.lsl M1109.length r1571.length 0 r1571.length :: ((arC (cI .i8) 0 r1572) ++ ((.lsl (M1109.length + 1) r1573.length 0 r1573.length :: []) : List AV)))))]⟩) := fr1795 _ _ (niC (Ne.symm ne1598) (niC (Ne.symm ne1599) niN)) o1772
  obtain ⟨r1822, hx1821, h⟩ := bind_some h
  refine kx (mvO rfl) (Rn (hA h1779 (hA h1780 (hA h1781 (hA h1782 (hA h1783 (hA h1784 (hN rfl hZ))))))) fun e1802 h1804 h1805 h1806 h1807 h1808 h1809 h1810 => sN (sq (Rg (kx (mvO rfl) (Rn (hA h1804 (hA h1805 (hA h1806 (hA h1807 (hA h1808 (hA h1809 (hA h1810 (hV (.int .i64 1) rfl hZ)))))))) fun e1811 h1813 h1814 h1815 h1816 h1817 h1818 h1819 h1820 => sN (sq (Rg (kx (ldOA (cs' := (.str r1569 :: (.bool r1570 :: (.lsl M1109.length r1571.length 0 r1571.length :: ((arC (cI .i8) 0 r1572) ++ ((.lsl (M1109.length + 1) r1573.length 0 r1573.length :: []) : List AV)))))) h1818 o1801 rfl rfl (ble rfl) rfl) (kx (mvO h1820) (kc (cl (v := .int .i64 r1822) rfl (cns rfl (cns rfl rfl)) (ra1 (ra_agg (mp1 rfl (mp1 rfl (mp1 (ra1_row o1798 (by simp [hl1709, hl1710, hl1796, hl1797]) Notch.fl) (mpA (fun _ => rArg1_flat) (fun _ => rfl) (mp1 (ra1_row o1799 (by simp [hl1709, hl1710, hl1796, hl1797]) Mark.fl) mp0)))))) (ra1 rfl ra0)) (laws_heldChain_ok (Chain.mk r1569 (Half.mk r1570 r1788 r1572) r1789) 1 _ hx1821) (fun _ => rfl)) (kx (mvO rfl) (Rn (hA h1813 (hA h1814 (hA h1815 (hA h1816 (hA h1817 (hA h1818 (hA h1819 (hN rfl hZ)))))))) fun e1823 h1825 h1826 h1827 h1828 h1829 h1830 h1831 h1832 => sN (sq (sq (Rg (kx (mvO h1832) (kx (bLss rfl rfl) (Rn (hA h1825 (hA h1826 (hA h1827 (hA h1828 (hA h1829 (hA h1830 (hA h1831 (hA h1832 (hN rfl hZ))))))))) fun e1833 h1835 h1836 h1837 h1838 h1839 h1840 h1841 h1842 h1843 => sN ?_))))))))))))))))))
  clear h1779 h1780 h1781 h1782 h1783 h1784 h1804 h1805 h1806 h1807 h1808 h1809 h1810 h1813 h1814 h1815 h1816 h1817 h1818 h1819 h1825 h1826 h1827 h1828 h1829 h1830 h1831 h1832
  rcases ite_some h with ⟨hb1844, h⟩ | ⟨hb1844, h⟩
  ·refine cT h1843 hb1844 (sq (Rg (kx (mvO rfl) (Rn (hV (.bool false) rfl hZ) fun e1845 h1847 => sN (xx (sR ?_))))))
   clear h1835 h1836 h1837 h1838 h1839 h1840 h1841 h1842 h1843
   obtain rfl := si h
   exact eR (resT h1847 res0) rfl
  refine cF h1843 hb1844 (xx (sN (sq (sq (Rg (kx (mvO h1842) (kx (mvO h1841) (kx (bNeq rfl rfl) (Rn (hA h1835 (hA h1836 (hA h1837 (hA h1838 (hA h1839 (hA h1840 (hA h1841 (hN rfl hZ)))))))) fun e1848 h1850 h1851 h1852 h1853 h1854 h1855 h1856 h1857 => sN ?_)))))))))
  clear h1835 h1836 h1837 h1838 h1839 h1840 h1841 h1842 h1843
  rcases ite_some h with ⟨hb1858, h⟩ | ⟨hb1858, h⟩
  ·refine cT h1857 hb1858 (sq (Rg (kx (mvO rfl) (Rn (hV (.bool false) rfl hZ) fun e1859 h1861 => sN (xx (sR ?_))))))
   clear h1850 h1851 h1852 h1853 h1854 h1855 h1856 h1857
   obtain rfl := si h
   exact eR (resT h1861 res0) rfl
  obtain ⟨⟨r1863, r1864, r1865, r1866, r1867⟩, hx1862, h⟩ := bind_some h
  obtain ⟨⟨r1869, r1870⟩, hx1868, h⟩ := bind_some h
  obtain ⟨q2051, hx1871, h⟩ := bind_some h
  refine cF h1857 hb1858 (xx (sN (sq (Rd (kf (ldPA h1851 rfl rfl) (fc (cl (v := .agg (.str r1863 :: (.bool r1864 :: (.sl (some 107) (r1865.map Notch.c) :: ((arC (cI .i8) 0 r1866) ++ ((.sl (some 39) (r1867.map Mark.c) :: []) : List AV)))))) rfl (cns rfl rfl) rfl (laws_toChain_ok a1 _ hx1862) nm) (kf (ldPA h1852 rfl rfl) (fc (cl (v := .agg [.str r1869, .int .u32 r1870]) rfl (cns rfl rfl) rfl (laws_toParty_ok a2 _ hx1868) nm) (kf (mvO h1850) ?_)))))))))
  rcases q2051 with ⟨r1872, r1873⟩ | ⟨r1960, r1961, r1962, r1963, r1964⟩
  ·refine fc (cl (v := .tup [.agg (.str ([] : List UInt8) :: (.bool false :: (.nils :: ((arC (cI .i8) 0 r1872) ++ ((.nils :: []) : List AV))))), .int .i64 r1873]) rfl (cns rfl (cns rfl (cns rfl rfl))) rfl (impl_PassOn_ok (Chain.mk r1863 (Half.mk r1864 r1865 r1866) r1867) (Party.mk r1869 r1870) a3 _ hx1871) nm) (kf (mvO rfl) (kf (exT rfl rfl) (kf (exT rfl rfl) (Ev.nfpushE (alO zero34) (Ev.fend1 fun M1875 hM1876 => ?_)))))
   have hM1876 := fendM hM1876 [⟨.box, 34, 20, [(.str ([] : List UInt8) :: (.bool false :: (.nils :: ((arC (cI .i8) 0 (Ar.rep 16 0)) ++ ((.nils :: []) : List AV)))))]⟩] rfl
   have o1877 := push_old hM1876 o1800
   have o1878 := push_old hM1876 o1798
   have o1879 := push_old hM1876 o1799
   have o1880 := push_old hM1876 o1801
   have ne1881 : ([] : Mem).length ≠ M1790.length := by have := lt_of_get (M := M1790) o1800; omega
   have ne1882 : M1109.length ≠ M1790.length := by have := lt_of_get (M := M1790) o1798; omega
   have ne1883 : (M1109.length + 1) ≠ M1790.length := by have := lt_of_get (M := M1790) o1799; omega
   have ne1884 : (M1109.length + 2) ≠ M1790.length := by have := lt_of_get (M := M1790) o1801; omega
   have o1885 : M1875[M1790.length]? = some (.live ⟨.box, 34, 20, [(.str ([] : List UInt8) :: (.bool false :: (.nils :: ((arC (cI .i8) 0 (Ar.rep 16 0)) ++ ((.nils :: []) : List AV)))))]⟩) := push_at hM1876 0 rfl
   refine kw (stO rfl rfl o1885 rfl rfl ⟨rfl, ble rfl⟩ rfl rfl) fun M1886 hM1887 => ?_
   have o1888 := set_ne hM1887 ne1881 o1877
   have o1889 := set_ne hM1887 ne1882 o1878
   have o1890 := set_ne hM1887 ne1883 o1879
   have o1891 := set_ne hM1887 ne1884 o1880
   have o1892 : M1886[M1790.length]? = some (.live ⟨.box, 34, 20, [(.str ([] : List UInt8) :: (.bool false :: (.nils :: ((arC (cI .i8) 0 r1872) ++ ((.nils :: []) : List AV)))))]⟩) := set_same hM1887 o1885
   obtain ⟨r1958, hr1959, h⟩ := bind_some h
   refine kx (mvO rfl) (Rn (hA h1853 (hA h1854 (hA h1855 (hA h1856 (hV (.loc M1790.length 1 0 0) rfl (hN rfl hZ)))))) fun e1893 h1895 h1896 h1897 h1898 h1899 h1900 => sN (sq (sq ?_)))
   clear h1850 h1851 h1852 h1853 h1854 h1855 h1856 h1857
   refine Ev.cut (Q1 := laws_FnExactPassOn_c15_Q r1569 r1570 r1571 r1572 r1573 r1787 r1788 r1789 (([] : Mem).length) M1109.length (M1109.length + 1) (M1109.length + 2) M1790.length r1958) (by
       have h := hr1959
       obtain ⟨r1902, hx1901, h⟩ := bind_some h
       refine Rg (kx (ldOA (cs' := (.str ([] : List UInt8) :: (.bool false :: (.nils :: ((arC (cI .i8) 0 r1872) ++ ((.nils :: []) : List AV)))))) h1899 o1892 rfl rfl (ble rfl) rfl) (kx (ldOA (cs' := (.str r1064 :: (.bool r1065 :: (.sl none (r1066.map Notch.c) :: ((arC (cI .i8) 0 r1067) ++ ((.sl none (r1068.map Mark.c) :: []) : List AV)))))) h1895 o1888 rfl rfl (ble rfl) rfl) (kc (cl (v := .bool r1902) rfl (cns rfl (cns rfl rfl)) rfl (laws_eqChain_ok (Chain.mk ([] : List UInt8) (Half.mk false ([] : List Notch) r1872) ([] : List Mark)) (Chain.mk r1064 (Half.mk r1065 r1066 r1067) r1068) _ hx1901) nm) (kx (uNot rfl) (kx (mvO rfl) ?_)))))
       rcases ite_some h with ⟨hb1903, h⟩ | ⟨hb1903, h⟩
       ·refine kx (guF rfl (congrArg Bool.not hb1903) (mvO h1900)) (kx (guF rfl (congrArg Bool.not hb1903) (mvO h1896)) (kx (guF rfl (congrArg Bool.not hb1903) (bNeq rfl rfl)) (kx (pkF rfl (congrArg Bool.not hb1903) rfl) (Rn (hA h1897 (hA h1898 (hN rfl hZ))) fun e1904 h1906 h1907 h1908 => ?_))))
        clear h1895 h1896 h1897 h1898 h1899 h1900
        obtain rfl := si h
        exact kd (show laws_FnExactPassOn_c15_Q r1569 r1570 r1571 r1572 r1573 r1787 r1788 r1789 (([] : Mem).length) M1109.length (M1109.length + 1) (M1109.length + 2) M1790.length _ _ from ⟨rfl, h1906, h1907, h1908, o1889, o1890, o1891⟩)
       refine kx (gsF rfl (congrArg Bool.not hb1903)) (kx (gsF rfl (congrArg Bool.not hb1903)) (kx (gsF rfl (congrArg Bool.not hb1903)) (kx (pkT rfl (congrArg Bool.not hb1903) rfl) (Rn (hA h1897 (hA h1898 (hV (.bool true) rfl hZ))) fun e1909 h1911 h1912 h1913 => ?_))))
       clear h1895 h1896 h1897 h1898 h1899 h1900
       obtain rfl := si h
       exact kd (show laws_FnExactPassOn_c15_Q r1569 r1570 r1571 r1572 r1573 r1787 r1788 r1789 (([] : Mem).length) M1109.length (M1109.length + 1) (M1109.length + 2) M1790.length _ _ from ⟨rfl, h1911, h1912, h1913, o1889, o1890, o1891⟩)) ?_
   revert h hr1959
   revert r1958
   intro y1916 hr1959 h
   intro x e1914 M1915 hq1957
   obtain ⟨rfl, h1917, h1918, h1919, o1920, o1921, o1922⟩ := hq1957
   refine sN ?_
   rcases ite_some h with ⟨hb1923, h⟩ | ⟨hb1923, h⟩
   ·refine cT h1919 hb1923 (sq (Rg (kx (mvO rfl) (Rn (hV (.bool false) rfl hZ) fun e1924 h1926 => sN (xx (sR ?_))))))
    clear h1917 h1918 h1919
    obtain rfl := si h
    exact eR (resT h1926 res0) rfl
   obtain ⟨r1933, hx1932, h⟩ := bind_some h
   refine cF h1919 hb1923 (xx (sN (sq (Rg (kx (mvO rfl) (Rn (hV (.loc (M1109.length + 2) 1 0 0) h1917 (hV (.int .i64 r1787) h1918 (hV (.int .i64 1) rfl hZ))) fun e1927 h1929 h1930 h1931 => sN (sq (Rg (kx (ldOA (cs' := (.str r1569 :: (.bool r1570 :: (.lsl M1109.length r1571.length 0 r1571.length :: ((arC (cI .i8) 0 r1572) ++ ((.lsl (M1109.length + 1) r1573.length 0 r1573.length :: []) : List AV)))))) h1929 o1922 rfl rfl (ble rfl) rfl) (kx (mvO h1931) (kc (cl (v := .int .i64 r1933) rfl (cns rfl (cns rfl rfl)) (ra1 (ra_agg (mp1 rfl (mp1 rfl (mp1 (ra1_row o1920 (by simp [hl1709, hl1710, hl1796, hl1797]) Notch.fl) (mpA (fun _ => rArg1_flat) (fun _ => rfl) (mp1 (ra1_row o1921 (by simp [hl1709, hl1710, hl1796, hl1797]) Mark.fl) mp0)))))) (ra1 rfl ra0)) (laws_heldChain_ok (Chain.mk r1569 (Half.mk r1570 r1788 r1572) r1789) 1 _ hx1932) (fun _ => rfl)) (kx (mvO rfl) (Rn (hA h1930 (hN rfl hZ)) fun e1934 h1936 h1937 => sN (sq (sq (Rg (kx (mvO h1937) (kx (bLss rfl rfl) (Rn (hA h1936 (hA h1937 (hN rfl hZ))) fun e1938 h1940 h1941 h1942 => sN ?_)))))))))))))))))))
   clear h1917 h1918 h1919 h1929 h1930 h1936 h1937
   rcases ite_some h with ⟨hb1943, h⟩ | ⟨hb1943, h⟩
   ·refine cT h1942 hb1943 (sq (Rg (kx (mvO rfl) (Rn (hV (.bool false) rfl hZ) fun e1944 h1946 => sN (xx (sR ?_))))))
    clear h1940 h1941 h1942
    obtain rfl := si h
    exact eR (resT h1946 res0) rfl
   refine cF h1942 hb1943 (xx (sN (sq (sq (Rg (kx (mvO h1941) (kx (mvO h1940) (kx (bNeq rfl rfl) (Rn (hN rfl hZ) fun e1947 h1949 => sN ?_)))))))))
   clear h1940 h1941 h1942
   rcases ite_some h with ⟨hb1950, h⟩ | ⟨hb1950, h⟩
   ·refine cT h1949 hb1950 (sq (Rg (kx (mvO rfl) (Rn (hV (.bool false) rfl hZ) fun e1951 h1953 => sN (xx (sR ?_))))))
    clear h1949
    obtain rfl := si h
    exact eR (resT h1953 res0) rfl
   refine cF h1949 hb1950 (xx (sN (sq (Rg (kx (mvO rfl) (Rn (hV (.bool true) rfl hZ) fun e1954 h1956 => sN (xx ?_)))))))
   clear h1949
   obtain rfl := si h
   exact eR (resT h1956 res0) rfl
  refine fc (cl (v := .tup [.agg (.str r1960 :: (.bool r1961 :: (.sl (some 107) (r1962.map Notch.c) :: ((arC (cI .i8) 0 r1963) ++ ((.sl (some 39) (r1964.map Mark.c) :: []) : List AV))))), .int .i64 0]) rfl (cns rfl (cns rfl (cns rfl rfl))) rfl (impl_PassOn_ok (Chain.mk r1863 (Half.mk r1864 r1865 r1866) r1867) (Party.mk r1869 r1870) a3 _ hx1871) nm) (kf (mvO rfl) (kf (exT rfl rfl) (kf (exT rfl rfl) (Ev.nfpushE (alO zero34) (Ev.fend1 fun M1966 hM1967 => ?_)))))
  have hM1967 := fendM hM1967 [⟨.box, 34, 20, [(.str ([] : List UInt8) :: (.bool false :: (.nils :: ((arC (cI .i8) 0 (Ar.rep 16 0)) ++ ((.nils :: []) : List AV)))))]⟩] rfl
  have o1968 := push_old hM1967 o1800
  have o1969 := push_old hM1967 o1798
  have o1970 := push_old hM1967 o1799
  have o1971 := push_old hM1967 o1801
  have ne1972 : ([] : Mem).length ≠ M1790.length := by have := lt_of_get (M := M1790) o1800; omega
  have ne1973 : M1109.length ≠ M1790.length := by have := lt_of_get (M := M1790) o1798; omega
  have ne1974 : (M1109.length + 1) ≠ M1790.length := by have := lt_of_get (M := M1790) o1799; omega
  have ne1975 : (M1109.length + 2) ≠ M1790.length := by have := lt_of_get (M := M1790) o1801; omega
  have o1976 : M1966[M1790.length]? = some (.live ⟨.box, 34, 20, [(.str ([] : List UInt8) :: (.bool false :: (.nils :: ((arC (cI .i8) 0 (Ar.rep 16 0)) ++ ((.nils :: []) : List AV)))))]⟩) := push_at hM1967 0 rfl
  refine kw (stO rfl rfl o1976 rfl rfl ⟨rfl, ble rfl⟩ rfl rfl) fun M1977 hM1978 => ?_
  have o1979 := set_ne hM1978 ne1972 o1968
  have o1980 := set_ne hM1978 ne1973 o1969
  have o1981 := set_ne hM1978 ne1974 o1970
  have o1982 := set_ne hM1978 ne1975 o1971
  have o1983 : M1977[M1790.length]? = some (.live ⟨.box, 34, 20, [(.str r1960 :: (.bool r1961 :: (.sl none (r1962.map Notch.c) :: ((arC (cI .i8) 0 r1963) ++ ((.sl none (r1964.map Mark.c) :: []) : List AV)))))]⟩) := set_same hM1978 o1976
  obtain ⟨r2049, hr2050, h⟩ := bind_some h
  refine kx (mvO rfl) (Rn (hA h1853 (hA h1854 (hA h1855 (hA h1856 (hV (.loc M1790.length 1 0 0) rfl (hV (.int .i64 0) rfl hZ)))))) fun e1984 h1986 h1987 h1988 h1989 h1990 h1991 => sN (sq (sq ?_)))
  clear h1850 h1851 h1852 h1853 h1854 h1855 h1856 h1857
  refine Ev.cut (Q1 := laws_FnExactPassOn_c16_Q r1569 r1570 r1571 r1572 r1573 r1787 r1788 r1789 (([] : Mem).length) M1109.length (M1109.length + 1) (M1109.length + 2) M1790.length r2049) (by
      have h := hr2050
      obtain ⟨r1993, hx1992, h⟩ := bind_some h
      refine Rg (kx (ldOA (cs' := (.str r1960 :: (.bool r1961 :: (.sl none (r1962.map Notch.c) :: ((arC (cI .i8) 0 r1963) ++ ((.sl none (r1964.map Mark.c) :: []) : List AV)))))) h1990 o1983 rfl rfl (ble rfl) rfl) (kx (ldOA (cs' := (.str r1064 :: (.bool r1065 :: (.sl none (r1066.map Notch.c) :: ((arC (cI .i8) 0 r1067) ++ ((.sl none (r1068.map Mark.c) :: []) : List AV)))))) h1986 o1979 rfl rfl (ble rfl) rfl) (kc (cl (v := .bool r1993) rfl (cns rfl (cns rfl rfl)) rfl (laws_eqChain_ok (Chain.mk r1960 (Half.mk r1961 r1962 r1963) r1964) (Chain.mk r1064 (Half.mk r1065 r1066 r1067) r1068) _ hx1992) nm) (kx (uNot rfl) (kx (mvO rfl) ?_)))))
      rcases ite_some h with ⟨hb1994, h⟩ | ⟨hb1994, h⟩
      ·refine kx (guF rfl (congrArg Bool.not hb1994) (mvO h1991)) (kx (guF rfl (congrArg Bool.not hb1994) (mvO h1987)) (kx (guF rfl (congrArg Bool.not hb1994) (bNeq rfl rfl)) (kx (pkF rfl (congrArg Bool.not hb1994) rfl) (Rn (hA h1988 (hA h1989 (hV (.bool false) rfl hZ))) fun e1995 h1997 h1998 h1999 => ?_))))
       clear h1986 h1987 h1988 h1989 h1990 h1991
       obtain rfl := si h
       exact kd (show laws_FnExactPassOn_c16_Q r1569 r1570 r1571 r1572 r1573 r1787 r1788 r1789 (([] : Mem).length) M1109.length (M1109.length + 1) (M1109.length + 2) M1790.length _ _ from ⟨rfl, h1997, h1998, h1999, o1980, o1981, o1982⟩)
      refine kx (gsF rfl (congrArg Bool.not hb1994)) (kx (gsF rfl (congrArg Bool.not hb1994)) (kx (gsF rfl (congrArg Bool.not hb1994)) (kx (pkT rfl (congrArg Bool.not hb1994) rfl) (Rn (hA h1988 (hA h1989 (hV (.bool true) rfl hZ))) fun e2000 h2002 h2003 h2004 => ?_))))
      clear h1986 h1987 h1988 h1989 h1990 h1991
      obtain rfl := si h
      exact kd (show laws_FnExactPassOn_c16_Q r1569 r1570 r1571 r1572 r1573 r1787 r1788 r1789 (([] : Mem).length) M1109.length (M1109.length + 1) (M1109.length + 2) M1790.length _ _ from ⟨rfl, h2002, h2003, h2004, o1980, o1981, o1982⟩)) ?_
  revert h hr2050
  revert r2049
  intro y2007 hr2050 h
  intro x e2005 M2006 hq2048
  obtain ⟨rfl, h2008, h2009, h2010, o2011, o2012, o2013⟩ := hq2048
  refine sN ?_
  rcases ite_some h with ⟨hb2014, h⟩ | ⟨hb2014, h⟩
  ·refine cT h2010 hb2014 (sq (Rg (kx (mvO rfl) (Rn (hV (.bool false) rfl hZ) fun e2015 h2017 => sN (xx (sR ?_))))))
   clear h2008 h2009 h2010
   obtain rfl := si h
   exact eR (resT h2017 res0) rfl
  obtain ⟨r2024, hx2023, h⟩ := bind_some h
  refine cF h2010 hb2014 (xx (sN (sq (Rg (kx (mvO rfl) (Rn (hV (.loc (M1109.length + 2) 1 0 0) h2008 (hV (.int .i64 r1787) h2009 (hV (.int .i64 1) rfl hZ))) fun e2018 h2020 h2021 h2022 => sN (sq (Rg (kx (ldOA (cs' := (.str r1569 :: (.bool r1570 :: (.lsl M1109.length r1571.length 0 r1571.length :: ((arC (cI .i8) 0 r1572) ++ ((.lsl (M1109.length + 1) r1573.length 0 r1573.length :: []) : List AV)))))) h2020 o2013 rfl rfl (ble rfl) rfl) (kx (mvO h2022) (kc (cl (v := .int .i64 r2024) rfl (cns rfl (cns rfl rfl)) (ra1 (ra_agg (mp1 rfl (mp1 rfl (mp1 (ra1_row o2011 (by simp [hl1709, hl1710, hl1796, hl1797]) Notch.fl) (mpA (fun _ => rArg1_flat) (fun _ => rfl) (mp1 (ra1_row o2012 (by simp [hl1709, hl1710, hl1796, hl1797]) Mark.fl) mp0)))))) (ra1 rfl ra0)) (laws_heldChain_ok (Chain.mk r1569 (Half.mk r1570 r1788 r1572) r1789) 1 _ hx2023) (fun _ => rfl)) (kx (mvO rfl) (Rn (hA h2021 (hN rfl hZ)) fun e2025 h2027 h2028 => sN (sq (sq (Rg (kx (mvO h2028) (kx (bLss rfl rfl) (Rn (hA h2027 (hA h2028 (hN rfl hZ))) fun e2029 h2031 h2032 h2033 => sN ?_)))))))))))))))))))
  clear h2008 h2009 h2010 h2020 h2021 h2027 h2028
  rcases ite_some h with ⟨hb2034, h⟩ | ⟨hb2034, h⟩
  ·refine cT h2033 hb2034 (sq (Rg (kx (mvO rfl) (Rn (hV (.bool false) rfl hZ) fun e2035 h2037 => sN (xx (sR ?_))))))
   clear h2031 h2032 h2033
   obtain rfl := si h
   exact eR (resT h2037 res0) rfl
  refine cF h2033 hb2034 (xx (sN (sq (sq (Rg (kx (mvO h2032) (kx (mvO h2031) (kx (bNeq rfl rfl) (Rn (hN rfl hZ) fun e2038 h2040 => sN ?_)))))))))
  clear h2031 h2032 h2033
  rcases ite_some h with ⟨hb2041, h⟩ | ⟨hb2041, h⟩
  ·refine cT h2040 hb2041 (sq (Rg (kx (mvO rfl) (Rn (hV (.bool false) rfl hZ) fun e2042 h2044 => sN (xx (sR ?_))))))
   clear h2040
   obtain rfl := si h
   exact eR (resT h2044 res0) rfl
  refine cF h2040 hb2041 (xx (sN (sq (Rg (kx (mvO rfl) (Rn (hV (.bool true) rfl hZ) fun e2045 h2047 => sN (xx ?_)))))))
  clear h2040
  obtain rfl := si h
  exact eR (resT h2047 res0) rfl
 refine cT h1686 (congrArg Bool.not hb1687) (sq (Rg (kx (mvO rfl) (Rn (hV (.bool false) rfl hZ) fun e2055 h2057 => sN (xx (sR ?_))))))
 clear h1678 h1679 h1680 h1681 h1682 h1683 h1684 h1685 h1686
 obtain rfl := si h
 exact eR (resT h2057 res0) rfl
end Go.Proofs.YtonpeobfmgdamabDoor
