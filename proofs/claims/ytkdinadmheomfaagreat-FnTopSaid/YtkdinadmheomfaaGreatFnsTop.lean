/- Printed by a program of ours (ext.py). -/
import Derived.Test.YtkdinadmheomfaaGreatFnsTopx0
set_option linter.unusedVariables false
set_option linter.unusedSimpArgs false
set_option maxRecDepth 100000
set_option maxHeartbeats 20000000
namespace Go.Proofs.YtkdinadmheomfaaGreat
open Go Go.Ab
def EV:Ann:=⟨[(0,r0 [0,1]),(1,r0 [0,1,5]),(2,r0 [0,1,5,20]),(3,r0 [4]),(4,r0 [0,1,55]),(5,r0 [4]),(6,r0 [0,1,60]),(7,r0 [0,69]),(8,r0 [4]),(9,r0 [75]),(10,r0 [4]),(11,r0 [4]),(12,r0 [0,1,6]),(13,r0 [0,1,6,136]),(14,r0 [4]),(15,r0 [0,1,6,158]),(16,r0 [4]),(17,r0 [181]),(18,r0 [4]),(19,r0 [4])],[]⟩
noncomputable def f117 (c:bh) (k:Nat):St:=
 (ak (ap (rg [0,1] <| aX 4 (pM (cnI 0))<|aXZ))
 (ak (ap (rg [0,1,5] <| aX 7 (pM 0)<|aX 8 (pN 7)<|aX 9 (pF 1 1 8)<|aX 10 (pL false 1 9)<|aX 11 (dl 24 10)<|aX 5 (pM 11)<|aXZ))
 (ak (ak (ap (mM [0,1,5,20] (aY 12 (pM 1)<|aY 13 (pN 12)<|aY 14 (pF 0 1 13)<|aY 15 (pL false 1 14)<|aY 16 (pM 0)<|aY 17 (pN 16)<|aY 18 (pF 0 1 17)<|aY 19 (pL false 1 18)<|aY 20 (pB .lss 2 15 19)<|aYZ) (aXZ)))
 (bJ (.tmp 20) (ak (ap (rg [4] <| aX 4 (pM (cnI 4))<|aXZ))
 (bV .ret)) (bV .nrm)))
 (ak (ak (ap (mM [0,1,55] (aY 21 (pM 5)<|aY 22 (pM 1)<|aY 23 (pN 22)<|aY 24 (pF 3 1 23)<|aY 25 (pL false 1 24)<|aY 26 (pK c false 99 [21,25])<|aY 27 (pU .not 26)<|aY 28 (pM 27)<|aY 29 (pG 28 false (pM 5))<|aY 30 (pG 28 false (pM 1))<|aY 31 (pG 28 false (pN 30))<|aY 32 (pG 28 false (pF 4 1 31))<|aY 33 (pG 28 false (pL false 1 32))<|aY 34 (pG 28 false (pK c false 99 [29,33]))<|aY 35 (pG 28 false (pU .not 34))<|aY 36 (pP 28 (cn (.bool true)) 35)<|aY 37 (pM 36)<|aY 38 (pG 37 false (pM 1))<|aY 39 (pG 37 false (pN 38))<|aY 40 (pG 37 false (pF 1 1 39))<|aY 41 (pG 37 false (pL false 1 40))<|aY 42 (pG 37 false (pB .neq 47 41 (cn (.int .i8 1))))<|aY 43 (pG 37 false (pM 42))<|aY 44 (pG 43 true (pM 1))<|aY 45 (pG 43 true (pN 44))<|aY 46 (pG 43 true (pF 2 1 45))<|aY 47 (pG 43 true (pL false 1 46))<|aY 48 (pG 43 true (pM 0))<|aY 49 (pG 43 true (pN 48))<|aY 50 (pG 43 true (pF 2 1 49))<|aY 51 (pG 43 true (pL false 1 50))<|aY 52 (pG 43 true (dl 25 51))<|aY 53 (pG 43 true (pB .geq 2 47 52))<|aY 54 (pG 37 false (pP 43 53 (cn (.bool false))))<|aY 55 (pP 37 (cn (.bool true)) 54)<|aYZ) (aXZ)))
 (bJ (.tmp 55) (ak (ap (rg [4] <| aX 4 (pM (cnI 2))<|aXZ))
 (bV .ret)) (bV .nrm)))
 (ak (ak (ap (rg [0,1,60] <| aX 56 (pM 1)<|aX 57 (pN 56)<|aX 58 (pF 1 1 57)<|aX 59 (pL false 1 58)<|aX 60 (pB .eql 47 59 (cn (.int .i8 1)))<|aXZ))
 (bJ (.tmp 60) (ak (ak (ap (mM [0,69] (aY 61 (pM 1)<|aY 62 (pN 61)<|aY 63 (pF 3 1 62)<|aY 64 (pL false 1 63)<|aY 65 (pM 1)<|aY 66 (pN 65)<|aY 67 (pF 4 1 66)<|aY 68 (pL false 1 67)<|aY 69 (pB .eql 2 64 68)<|aYZ) (aXZ)))
 (bJ (.tmp 69) (ak (ap (rg [4] <| aX 4 (pM (cnI 4))<|aXZ))
 (bV .ret)) (bV .nrm)))
 (ak (ak (ap (rg [75] <| aX 70 (pM 0)<|aX 71 (pN 70)<|aX 72 (pF 2 1 71)<|aX 73 (pL false 1 72)<|aX 74 (dl 25 73)<|aX 75 (pB .eql 3 74 (cnI 40))<|aXZ))
 (bJ (.tmp 75) (ak (ap (rg [4] <| aX 4 (pM (cnI 3))<|aXZ))
 (bV .ret)) (bV .nrm)))
 (ak (ap (rg [4] <| aX 4 (pM (cnI 0))<|aXZ))
 (bV .ret)))) (bV .nrm)))
 (ak (ap (mM [0,1,6] (aY 76 (pM 0)<|aY 77 (pN 76)<|aY 78 (pF 2 1 77)<|aY 79 (pL false 1 78)<|aY 80 (pM 1)<|aY 81 (pN 80)<|aY 82 (pF 2 1 81)<|aY 83 (pL false 1 82)<|aY 84 (pI 5 79 83)<|aY 6 (pM 84)<|aYZ) (aXZ)))
 (ak (ak (ap (mM [0,1,6,136] (aY 85 (pM 1)<|aY 86 (pN 85)<|aY 87 (pF 1 1 86)<|aY 88 (pL false 1 87)<|aY 89 (pB .eql 47 88 (cn (.int .i8 2)))<|aY 90 (pM 89)<|aY 91 (pG 90 true (pM 1))<|aY 92 (pG 90 true (pN 91))<|aY 93 (pG 90 true (pF 3 1 92))<|aY 94 (pG 90 true (pL false 1 93))<|aY 95 (pG 90 true (pM 1))<|aY 96 (pG 90 true (pN 95))<|aY 97 (pG 90 true (pF 4 1 96))<|aY 98 (pG 90 true (pL false 1 97))<|aY 99 (pG 90 true (pB .eql 2 94 98))<|aY 100 (pP 90 99 (cn (.bool false)))<|aY 101 (pM 100)<|aY 102 (pG 101 false (pM 1))<|aY 103 (pG 101 false (pN 102))<|aY 104 (pG 101 false (pF 1 1 103))<|aY 105 (pG 101 false (pL false 1 104))<|aY 106 (pG 101 false (pB .neq 47 105 (cn (.int .i8 3))))<|aY 107 (pG 101 false (pM 106))<|aY 108 (pG 107 true (pM 1))<|aY 109 (pG 107 true (pN 108))<|aY 110 (pG 107 true (pF 3 1 109))<|aY 111 (pG 107 true (pL false 1 110))<|aY 112 (pG 107 true (pM 6))<|aY 113 (pG 107 true (pN 112))<|aY 114 (pG 107 true (pF 1 1 113))<|aY 115 (pG 107 true (pL false 1 114))<|aY 116 (pG 107 true (pB .neq 2 111 115))<|aY 117 (pG 101 false (pP 107 116 (cn (.bool false))))<|aY 118 (pP 101 (cn (.bool true)) 117)<|aY 119 (pM 118)<|aY 120 (pG 119 false (pM 6))<|aY 121 (pG 119 false (pN 120))<|aY 122 (pG 119 false (pF 4 1 121))<|aY 123 (pG 119 false (pL false 1 122))<|aY 124 (pG 119 false (pB .eql 2 123 (cnI 0)))<|aY 125 (pP 119 (cn (.bool true)) 124)<|aY 126 (pM 125)<|aY 127 (pG 126 false (pM 1))<|aY 128 (pG 126 false (pN 127))<|aY 129 (pG 126 false (pF 5 1 128))<|aY 130 (pG 126 false (pL false 1 129))<|aY 131 (pG 126 false (pM 6))<|aY 132 (pG 126 false (pN 131))<|aY 133 (pG 126 false (pF 4 1 132))<|aY 134 (pG 126 false (pL false 1 133))<|aY 135 (pG 126 false (pB .gtr 2 130 134))<|aY 136 (pP 126 (cn (.bool true)) 135)<|aYZ) (aXZ)))
 (bJ (.tmp 136) (ak (ap (rg [4] <| aX 4 (pM (cnI 4))<|aXZ))
 (bV .ret)) (bV .nrm)))
 (ak (ak (ap (mM [0,1,6,158] (aY 137 (pM 1)<|aY 138 (pN 137)<|aY 139 (pF 1 1 138)<|aY 140 (pL false 1 139)<|aY 141 (pB .eql 47 140 (cn (.int .i8 3)))<|aY 142 (pM 141)<|aY 143 (pG 142 true (pM 0))<|aY 144 (pG 142 true (pN 143))<|aY 145 (pG 142 true (pF 1 1 144))<|aY 146 (pG 142 true (pL false 1 145))<|aY 147 (pG 142 true (pM 6))<|aY 148 (pG 142 true (pN 147))<|aY 149 (pG 142 true (pF 0 1 148))<|aY 150 (pG 142 true (pL false 1 149))<|aY 151 (pG 142 true (pI 1 146 150))<|aY 152 (pG 142 true (pL false 1 151))<|aY 153 (pG 142 true (pM 1))<|aY 154 (pG 142 true (pN 153))<|aY 155 (pG 142 true (pF 5 1 154))<|aY 156 (pG 142 true (pL false 1 155))<|aY 157 (pG 142 true (pB .lss 2 152 156))<|aY 158 (pP 142 157 (cn (.bool false)))<|aYZ) (aXZ)))
 (bJ (.tmp 158) (ak (ap (rg [4] <| aX 4 (pM (cnI 8))<|aXZ))
 (bV .ret)) (bV .nrm)))
 (ak (ak (ap (mM [181] (aY 159 (pM 1)<|aY 160 (pN 159)<|aY 161 (pF 1 1 160)<|aY 162 (pL false 1 161)<|aY 163 (pB .eql 47 162 (cn (.int .i8 3)))<|aY 164 (pM 163)<|aY 165 (pG 164 true (pM 0))<|aY 166 (pG 164 true (pN 165))<|aY 167 (pG 164 true (pF 1 1 166))<|aY 168 (pG 164 true (pL false 1 167))<|aY 169 (pG 164 true (pM 6))<|aY 170 (pG 164 true (pN 169))<|aY 171 (pG 164 true (pF 1 1 170))<|aY 172 (pG 164 true (pL false 1 171))<|aY 173 (pG 164 true (pI 1 168 172))<|aY 174 (pG 164 true (pL false 1 173))<|aY 175 (pG 164 true (pM 1))<|aY 176 (pG 164 true (pN 175))<|aY 177 (pG 164 true (pF 5 1 176))<|aY 178 (pG 164 true (pL false 1 177))<|aY 179 (pG 164 true (pB .add 2 174 178))<|aY 180 (pG 164 true (pB .gtr 2 179 (cnI 100000000)))<|aY 181 (pP 164 180 (cn (.bool false)))<|aYZ) (aXZ)))
 (bJ (.tmp 181) (ak (ap (rg [4] <| aX 4 (pM (cnI 3))<|aXZ))
 (bV .ret)) (bV .nrm)))
 (ak (ap (rg [4] <| aX 4 (pM (cnI 0))<|aXZ))
 (bV .ret)))))))))))
theorem Kr (c:bh) (k:Nat):cf cx c 182 EV k (Tryz.f117.body.getD .skip)=f117 c k:=by kernel_rfl
def EO:Ann:=⟨[(0,r0 [1]),(1,r0 [1,21]),(2,r0 [2]),(3,r0 [1,3]),(4,r0 [1,3,4,5,6,7]),(5,r0 [2])],[]⟩
noncomputable def f118 (c:bh) (k:Nat):St:=
 (ak (ap (rg [1] <| aX 1 (pBox 6 0)<|aX 2 (pM (cn (.bool false)))<|aXZ))
 (ak (ak (ap (rg [1,21] <| aX 8 (pF 1 1 1)<|aX 9 (pL false 1 8)<|aX 10 (pB .lss 47 9 (cn (.int .i8 1)))<|aX 11 (pM 10)<|aX 12 (pG 11 false (pF 1 1 1))<|aX 13 (pG 11 false (pL false 1 12))<|aX 14 (pG 11 false (pB .gtr 47 13 (cn (.int .i8 4))))<|aX 15 (pP 11 (cn (.bool true)) 14)<|aX 16 (pM 15)<|aX 17 (pG 16 false (pF 0 1 1))<|aX 18 (pG 16 false (pL false 1 17))<|aX 19 (pG 16 false (pK c false 38 [18]))<|aX 20 (pG 16 false (pU .not 19))<|aX 21 (pP 16 (cn (.bool true)) 20)<|aXZ))
 (bJ (.tmp 21) (ak (ap (rg [2] <| aX 2 (pM (cn (.bool false)))<|aXZ))
 (bV .ret)) (bV .nrm)))
 (ak (ap (rg [1,3] <| aX 3 (pM (cn (.fn 128 [])))<|aXZ))
 (ak (ap (rg [1,3,4,5,6,7] <| aX 23 (pF 1 1 1)<|aX 24 (pL false 1 23)<|aX 25 (pK c false 129 [24])<|aX 22 (pM 25)<|aX 26 (pE 0 22)<|aX 27 (pE 1 22)<|aX 28 (pE 2 22)<|aX 29 (pE 3 22)<|aX 4 (pM 26)<|aX 5 (pM 27)<|aX 6 (pM 28)<|aX 7 (pM 29)<|aXZ))
 (ak (ap (rg [2] <| aX 30 (pM 3)<|aX 31 (pM 4)<|aX 32 (pF 2 1 1)<|aX 33 (pL false 1 32)<|aX 34 (fun n e M=>C3 cx c false n (a3 e 30) [(a3 e 31),(a3 e 33),(.int .i64 0),(.int .i64 39)] M)<|aX 35 (pM 34)<|aX 36 (pG 35 true (pM 3))<|aX 37 (pG 35 true (pM 5))<|aX 38 (pG 35 true (pF 3 1 1))<|aX 39 (pG 35 true (pL false 1 38))<|aX 40 (pG 35 true (fun n e M=>C3 cx c false n (a3 e 36) [(a3 e 37),(a3 e 39),(.int .i64 0),(.int .i64 15)] M))<|aX 41 (pP 35 40 (cn (.bool false)))<|aX 42 (pM 41)<|aX 43 (pG 42 true (pM 3))<|aX 44 (pG 42 true (pM 6))<|aX 45 (pG 42 true (pF 4 1 1))<|aX 46 (pG 42 true (pL false 1 45))<|aX 47 (pG 42 true (fun n e M=>C3 cx c false n (a3 e 43) [(a3 e 44),(a3 e 46),(.int .i64 0),(.int .i64 15)] M))<|aX 48 (pP 42 47 (cn (.bool false)))<|aX 49 (pM 48)<|aX 50 (pG 49 true (pM 3))<|aX 51 (pG 49 true (pM 7))<|aX 52 (pG 49 true (pF 5 1 1))<|aX 53 (pG 49 true (pL false 1 52))<|aX 54 (pG 49 true (fun n e M=>C3 cx c false n (a3 e 50) [(a3 e 51),(a3 e 53),(.int .i64 1),(.int .i64 100000000)] M))<|aX 55 (pP 49 54 (cn (.bool false)))<|aX 2 (pM 55)<|aXZ))
 (bV .ret))))))
theorem KI (c:bh) (k:Nat):cf cx c 56 EO k (Tryz.f118.body.getD .skip)=f118 c k:=by kernel_rfl
def Ei:Ann:=⟨[(0,⟨[0],[],[],[],[2,3,4],none,[]⟩),(1,r0 [2,3,4,16]),(2,r0 [4,5]),(3,r0 [2,3,4,6,7,8]),(4,r0 [2,3,4,6,7,8,10]),(5,r0 [2,3,4,7,8,55]),(6,r0 [4,5]),(7,r0 [2,3,4,7,67]),(8,r0 [4,5]),(9,⟨[],[1],[],[],[2,3,4,7],none,[]⟩),(10,r0 [2,3,4,7]),(11,r0 [2,3,4,7,76]),(12,r0 [2,3,4,80]),(13,r0 [4,5]),(14,⟨[14],[],[],[],[2,4],none,[]⟩),(15,r0 [4,5]),(16,r0 [2,3,4,7,11]),(17,r0 [2,3,4,11,134]),(18,r0 [4,5]),(19,r0 [2,3,4,11,137]),(20,r0 [2,3,4,11,137,138]),(21,r0 [2,3,4,11]),(22,r0 [2,4,11,151]),(23,r0 [2,4]),(24,r0 [2,3,4,11,137,155]),(25,r0 [2,3,4,11,167]),(26,r0 [4,5]),(27,⟨[],[],[],[12],[2,3,4,11],none,[]⟩),(28,⟨[],[],[],[12],[2,3,4,11],none,[]⟩),(29,⟨[],[],[],[9],[2,4,11],none,[]⟩),(30,r0 [2,4,210]),(31,r0 [4,5]),(32,r0 [2,4,11,212]),(33,r0 [2,4]),(34,r0 [4,5])],[]⟩
noncomputable def f119 (c:bh) (k:Nat):St:=
 (ak (ap (rg [2,3,4] <| aX 2 (fun n e M=>s3 n 27 3 (a3 e 0) M)<|aX 3 (pBox 6 1)<|aX 4 (nG 27 3)<|aX 5 (pM (cnI 0))<|aXZ))
 (ak (ak (ap (rg [2,3,4,16] <| aX 12 (pF 0 1 3)<|aX 13 (pL false 1 12)<|aX 14 (pF 0 1 2)<|aX 15 (pL false 1 14)<|aX 16 (pB .lss 2 13 15)<|aXZ))
 (bJ (.tmp 16) (ak (ap (rg [4,5] <| aX 17 (fun n e M=>keep (db (b5 cx.P 27) [] M))<|aX0 (pS 3 4 17)<|aX 5 (pM (cnI 4))<|aXZ))
 (bV .ret)) (bV .nrm)))
 (ak (ap (rg [2,3,4,6,7,8] <| aX 19 (pF 1 1 3)<|aX 20 (pL false 1 19)<|aX 21 (pK c false 129 [20])<|aX 18 (pM 21)<|aX 22 (pE 0 18)<|aX 23 (pE 1 18)<|aX 24 (pE 2 18)<|aX 25 (pE 3 18)<|aX 6 (pM 22)<|aX 7 (pM 23)<|aX 8 (pM 24)<|aX 9 (pM 25)<|aXZ))
 (ak (ap (rg [2,3,4,6,7,8,10] <| aX 26 (pF 1 1 2)<|aX 27 (pL false 1 26)<|aX 28 (dl 24 27)<|aX 10 (pM 28)<|aXZ))
 (ak (ak (ap (rg [2,3,4,7,8,55] <| aX 29 (pM 7)<|aX 30 (pM 29)<|aX 31 (pG 30 true (pF 3 1 3))<|aX 32 (pG 30 true (pL false 1 31))<|aX 33 (pG 30 true (pM 10))<|aX 34 (pG 30 true (pB .geq 2 32 33))<|aX 35 (pP 30 34 (cn (.bool false)))<|aX 36 (pM 35)<|aX 37 (pG 36 false (pM 8))<|aX 38 (pG 36 false (pM 37))<|aX 39 (pG 38 true (pF 4 1 3))<|aX 40 (pG 38 true (pL false 1 39))<|aX 41 (pG 38 true (pM 10))<|aX 42 (pG 38 true (pB .geq 2 40 41))<|aX 43 (pG 36 false (pP 38 42 (cn (.bool false))))<|aX 44 (pP 36 (cn (.bool true)) 43)<|aX 45 (pM 44)<|aX 46 (pG 45 false (pM 6))<|aX 47 (pG 45 false (pM 46))<|aX 48 (pG 47 true (pF 2 1 3))<|aX 49 (pG 47 true (pL false 1 48))<|aX 50 (pG 47 true (pF 2 1 2))<|aX 51 (pG 47 true (pL false 1 50))<|aX 52 (pG 47 true (dl 25 51))<|aX 53 (pG 47 true (pB .geq 2 49 52))<|aX 54 (pG 45 false (pP 47 53 (cn (.bool false))))<|aX 55 (pP 45 (cn (.bool true)) 54)<|aXZ))
 (bJ (.tmp 55) (ak (ap (rg [4,5] <| aX 56 (fun n e M=>keep (db (b5 cx.P 27) [] M))<|aX0 (pS 3 4 56)<|aX 5 (pM (cnI 2))<|aXZ))
 (bV .ret)) (bV .nrm)))
 (ak (ak (ap (rg [2,3,4,7,67] <| aX 57 (pM 7)<|aX 58 (pM 57)<|aX 59 (pG 58 true (pM 8))<|aX 60 (pP 58 59 (cn (.bool false)))<|aX 61 (pM 60)<|aX 62 (pG 61 true (pF 3 1 3))<|aX 63 (pG 61 true (pL false 1 62))<|aX 64 (pG 61 true (pF 4 1 3))<|aX 65 (pG 61 true (pL false 1 64))<|aX 66 (pG 61 true (pB .eql 2 63 65))<|aX 67 (pP 61 66 (cn (.bool false)))<|aXZ))
 (bJ (.tmp 67) (ak (ap (rg [4,5] <| aX 68 (fun n e M=>keep (db (b5 cx.P 27) [] M))<|aX0 (pS 3 4 68)<|aX 5 (pM (cnI 4))<|aXZ))
 (bV .ret)) (bV .nrm)))
 (ak (ap (rg [2,3,4,7] <| aX 69 (pL true 3 2)<|aX 70 (pK c true 91 [69])<|aX0 (pS 3 2 70)<|aXZ))
 (ak (ap (rg [2,3,4,7] <| aX 71 (pF 0 1 3)<|aX 72 (pL false 1 71)<|aX 73 (pF 0 1 2)<|aX0 (pS 1 73 72)<|aXZ))
 (ak (ak (ap (rg [2,3,4,7,76] <| aX 74 (pF 1 1 3)<|aX 75 (pL false 1 74)<|aX 76 (pB .eql 47 75 (cn (.int .i8 1)))<|aXZ))
 (bJ (.tmp 76) (ak (ak (ap (rg [2,3,4,80] <| aX 77 (pF 2 1 2)<|aX 78 (pL false 1 77)<|aX 79 (dl 25 78)<|aX 80 (pB .eql 3 79 (cnI 40))<|aXZ))
 (bJ (.tmp 80) (ak (ap (rg [4,5] <| aX 81 (fun n e M=>keep (db (b5 cx.P 27) [] M))<|aX0 (pS 3 4 81)<|aX 5 (pM (cnI 3))<|aXZ))
 (bV .ret)) (bV .nrm)))
 (ak (ap (rg [2,4] <| aX 82 (pF 2 1 2)<|aX 83 (pL false 1 82)<|aX 84 (pF 3 1 3)<|aX 85 (pL false 1 84)<|aX 86 (pF 4 1 3)<|aX 87 (pL false 1 86)<|aX 88 (pF 0 1 3)<|aX 89 (pL false 1 88)<|aX 90 (pF 5 1 3)<|aX 91 (pL false 1 90)<|aX 92 (pF 5 1 3)<|aX 93 (pL false 1 92)<|aX 94 (fun n e M=>keep (db (b5 cx.P 80) [(0,1,(a3 e 85)),(1,1,(a3 e 87)),(2,1,(a3 e 89)),(3,1,(a3 e 91)),(4,1,(a3 e 93))] M))<|aX 95 (fun n e M=>keep (eX 80 5 [(a3 e 94)] M))<|aX 96 (fun n e M=>ks n 80 5 40 (a3 e 83) (a3 e 95) M)<|aX 97 (pF 2 1 2)<|aX0 (pS 1 97 96)<|aXZ))
 (ak (ap (rg [4,5] <| aX 98 (pL true 3 2)<|aX0 (pS 3 4 98)<|aX 5 (pM (cnI 0))<|aXZ))
 (bV .ret)))) (bV .nrm)))
 (ak (ap (rg [2,3,4,7,11] <| aX 99 (pF 2 1 2)<|aX 100 (pL false 1 99)<|aX 101 (pF 2 1 3)<|aX 102 (pL false 1 101)<|aX 103 (pI 5 100 102)<|aX 11 (pM 103)<|aXZ))
 (ak (ak (ap (mM [2,3,4,11,134] (aY 104 (pM 7)<|aY 105 (pM 104)<|aY 106 (pG 105 true (pF 3 1 3))<|aY 107 (pG 105 true (pL false 1 106))<|aY 108 (pG 105 true (pM 11))<|aY 109 (pG 105 true (pN 108))<|aY 110 (pG 105 true (pF 1 1 109))<|aY 111 (pG 105 true (pL false 1 110))<|aY 112 (pG 105 true (pB .neq 2 107 111))<|aY 113 (pP 105 112 (cn (.bool false)))<|aY 114 (pM 113)<|aY 115 (pG 114 false (pM 11))<|aY 116 (pG 114 false (pN 115))<|aY 117 (pG 114 false (pF 4 1 116))<|aY 118 (pG 114 false (pL false 1 117))<|aY 119 (pG 114 false (pB .eql 2 118 (cnI 0)))<|aY 120 (pP 114 (cn (.bool true)) 119)<|aY 121 (pM 120)<|aY 122 (pG 121 false (pF 1 1 3))<|aY 123 (pG 121 false (pL false 1 122))<|aY 124 (pG 121 false (pB .eql 47 123 (cn (.int .i8 3))))<|aY 125 (pG 121 false (pM 124))<|aY 126 (pG 125 true (pF 5 1 3))<|aY 127 (pG 125 true (pL false 1 126))<|aY 128 (pG 125 true (pM 11))<|aY 129 (pG 125 true (pN 128))<|aY 130 (pG 125 true (pF 4 1 129))<|aY 131 (pG 125 true (pL false 1 130))<|aY 132 (pG 125 true (pB .gtr 2 127 131))<|aY 133 (pG 121 false (pP 125 132 (cn (.bool false))))<|aY 134 (pP 121 (cn (.bool true)) 133)<|aYZ) (aXZ)))
 (bJ (.tmp 134) (ak (ap (rg [4,5] <| aX 135 (fun n e M=>keep (db (b5 cx.P 27) [] M))<|aX0 (pS 3 4 135)<|aX 5 (pM (cnI 4))<|aXZ))
 (bV .ret)) (bV .nrm)))
 (ak (ak (ap (rg [2,3,4,11,137] <| aX 136 (pF 1 1 3)<|aX 137 (pL false 1 136)<|aXZ))
 (bU 0 (ak (ap (rg [2,3,4,11,137,138] <| aX 139 (pB .eql 47 137 (cn (.int .i8 2)))<|aX 138 (pM 139)<|aXZ))
 (bJ (.tmp 138) (ak (ap (rg [2,3,4,11] <| aX 140 (pM 11)<|aX 141 (pF 4 1 3)<|aX 142 (pL false 1 141)<|aX 143 (pN 140)<|aX 144 (pF 1 1 143)<|aX0 (pS 1 144 142)<|aXZ))
 (ak (ap (mM [2,4,11,151] (aY 145 (pF 4 1 3)<|aY 146 (pL false 1 145)<|aY 147 (pM 11)<|aY 148 (pN 147)<|aY 149 (pF 0 1 148)<|aY 150 (pL false 1 149)<|aY 151 (pB .eql 2 146 150)<|aYZ) (aXZ)))
 (bJ (.tmp 151) (ap (rg [2,4] <| aX 152 (pM 11)<|aX 153 (pN 152)<|aX 154 (pF 4 1 153)<|aX0 (pS 1 154 (cnI 0))<|aXZ)) (bV .nrm)))) (ak (ap (rg [2,3,4,11,137,155] <| aX 156 (pB .eql 47 137 (cn (.int .i8 3)))<|aX 155 (pM 156)<|aXZ))
 (bJ (.tmp 155) (ak (ak (ap (mM [2,3,4,11,167] (aY 157 (pF 1 1 2)<|aY 158 (pL false 1 157)<|aY 159 (pM 11)<|aY 160 (pN 159)<|aY 161 (pF 0 1 160)<|aY 162 (pL false 1 161)<|aY 163 (pI 1 158 162)<|aY 164 (pL false 1 163)<|aY 165 (pF 5 1 3)<|aY 166 (pL false 1 165)<|aY 167 (pB .lss 2 164 166)<|aYZ) (aXZ)))
 (bJ (.tmp 167) (ak (ap (rg [4,5] <| aX 168 (fun n e M=>keep (db (b5 cx.P 27) [] M))<|aX0 (pS 3 4 168)<|aX 5 (pM (cnI 8))<|aXZ))
 (bV .ret)) (bV .nrm)))
 (ak (ap (mM [2,3,4,11] (aY 169 (pF 1 1 2)<|aY 170 (pL false 1 169)<|aY 171 (pM 11)<|aY 172 (pN 171)<|aY 173 (pF 0 1 172)<|aY 174 (pL false 1 173)<|aY 175 (pI 1 170 174)<|aY 176 (pL false 1 175)<|aY 177 (pF 5 1 3)<|aY 178 (pL false 1 177)<|aY 179 (pB .sub 2 176 178)<|aY 180 (pI 1 170 174)<|aYZ) (aX0 (pS 1 180 179)<|aXZ)))
 (ak (ap (mM [2,3,4,11] (aY 181 (pF 1 1 2)<|aY 182 (pL false 1 181)<|aY 183 (pM 11)<|aY 184 (pN 183)<|aY 185 (pF 1 1 184)<|aY 186 (pL false 1 185)<|aY 187 (pI 1 182 186)<|aY 188 (pL false 1 187)<|aY 189 (pF 5 1 3)<|aY 190 (pL false 1 189)<|aY 191 (pB .add 2 188 190)<|aY 192 (pI 1 182 186)<|aYZ) (aX0 (pS 1 192 191)<|aXZ)))
 (ak (ap (mM [2,4,11] (aY 193 (pM 11)<|aY 194 (pN 193)<|aY 195 (pF 4 1 194)<|aY 196 (pL false 1 195)<|aY 197 (pF 5 1 3)<|aY 198 (pL false 1 197)<|aY 199 (pB .sub 2 196 198)<|aY 200 (pN 193)<|aY 201 (pF 4 1 200)<|aYZ) (aX0 (pS 1 201 199)<|aXZ)))
 (ak (ap (mM [2,4,210] (aY 202 (pF 1 1 2)<|aY 203 (pL false 1 202)<|aY 204 (pM 11)<|aY 205 (pN 204)<|aY 206 (pF 1 1 205)<|aY 207 (pL false 1 206)<|aY 208 (pI 1 203 207)<|aY 209 (pL false 1 208)<|aY 210 (pB .gtr 2 209 (cnI 100000000))<|aYZ) (aXZ)))
 (bJ (.tmp 210) (ak (ap (rg [4,5] <| aX 211 (fun n e M=>keep (db (b5 cx.P 27) [] M))<|aX0 (pS 3 4 211)<|aX 5 (pM (cnI 3))<|aXZ))
 (bV .ret)) (bV .nrm))))))) (ak (ap (rg [2,4,11,212] <| aX 213 (pB .eql 47 137 (cn (.int .i8 4)))<|aX 212 (pM 213)<|aXZ))
 (bJ (.tmp 212) (ap (rg [2,4] <| aX 214 (pM 11)<|aX 215 (pN 214)<|aX 216 (pF 4 1 215)<|aX0 (pS 1 216 (cnI 0))<|aXZ)) (bV .nrm)))))))))
 (ak (ap (rg [4,5] <| aX 217 (pL true 3 2)<|aX0 (pS 3 4 217)<|aX 5 (pM (cnI 0))<|aXZ))
 (bV .ret))))))))))))))
theorem K2 (c:bh) (k:Nat):cf cx c 218 Ei k (Tryz.f119.body.getD .skip)=f119 c k:=by kernel_rfl
def El:Ann:=⟨[(0,r0 [0]),(1,r0 [0,4]),(2,r0 [2]),(3,r0 [2])],[]⟩
noncomputable def f120 (c:bh) (k:Nat):St:=
 (ak (ap (rg [0] <| aX 2 (pM (cn .nils))<|aXZ))
 (ak (ak (ap (rg [0,4] <| aX 3 (pM 0)<|aX 4 (pB .eql 24 3 (cn .nils))<|aXZ))
 (bJ (.tmp 4) (ak (ap (rg [2] <| aX 2 (pM (cn .nils))<|aXZ))
 (bV .ret)) (bV .nrm)))
 (ak (ap (rg [2] <| aX 5 (fun n e M=>keep (eX 2 1 [] M))<|aX 6 (pM 0)<|aX 7 (fun n e M=>rB 2 1 8 (a3 e 5) (a3 e 6) M)<|aX 2 (pM 7)<|aXZ))
 (bV .ret))))
theorem KN (c:bh) (k:Nat):cf cx c 8 El k (Tryz.f120.body.getD .skip)=f120 c k:=by kernel_rfl
def E4:Ann:=⟨[(0,r0 [0]),(1,r0 [0,4]),(2,r0 [2]),(3,r0 [2])],[]⟩
noncomputable def f121 (c:bh) (k:Nat):St:=
 (ak (ap (rg [0] <| aX 2 (pM (cn .nils))<|aXZ))
 (ak (ak (ap (rg [0,4] <| aX 3 (pM 0)<|aX 4 (pB .eql 25 3 (cn .nils))<|aXZ))
 (bJ (.tmp 4) (ak (ap (rg [2] <| aX 2 (pM (cn .nils))<|aXZ))
 (bV .ret)) (bV .nrm)))
 (ak (ap (rg [2] <| aX 5 (fun n e M=>keep (eX 80 5 [] M))<|aX 6 (pM 0)<|aX 7 (fun n e M=>rB 80 5 40 (a3 e 5) (a3 e 6) M)<|aX 2 (pM 7)<|aXZ))
 (bV .ret))))
theorem KK (c:bh) (k:Nat):cf cx c 8 E4 k (Tryz.f121.body.getD .skip)=f121 c k:=by kernel_rfl
def E6:Ann:=⟨[(0,r0 [0]),(1,r0 [0,3]),(2,r0 [0,3,4]),(3,r0 [0,3,4,5]),(4,r0 [0,3,4,5,6]),(5,r0 [0,3,4,5,6,32]),(6,r0 [2]),(7,r0 [0,3,4,5,6,36]),(8,r0 [0,3,4,5,6,36,37]),(9,r0 [2]),(10,r0 [0,3,4,5,6,36,53]),(11,r0 [2]),(12,r0 [0,3,4,6,36,69]),(13,r0 [2]),(14,r0 [0,3,4,89]),(15,r0 [2]),(16,r0 [2])],[]⟩
noncomputable def f122 (c:bh) (k:Nat):St:=
 (ak (ap (rg [0] <| aX 2 (pM (cn (.bool false)))<|aXZ))
 (ak (ap (rg [0,3] <| aX 7 (pM 0)<|aX 8 (pN 7)<|aX 9 (pF 2 1 8)<|aX 10 (pL false 1 9)<|aX 11 (pK c false 100 [10,(cnI 0),(cnI 39)])<|aX 3 (pM 11)<|aXZ))
 (ak (ap (rg [0,3,4] <| aX 12 (pM 0)<|aX 13 (pN 12)<|aX 14 (pF 3 1 13)<|aX 15 (pL false 1 14)<|aX 16 (pK c false 100 [15,(cnI 0),(cnI 15)])<|aX 4 (pM 16)<|aXZ))
 (ak (ap (rg [0,3,4,5] <| aX 17 (pM 0)<|aX 18 (pN 17)<|aX 19 (pF 4 1 18)<|aX 20 (pL false 1 19)<|aX 21 (pK c false 100 [20,(cnI 0),(cnI 15)])<|aX 5 (pM 21)<|aXZ))
 (ak (ap (rg [0,3,4,5,6] <| aX 22 (pM 0)<|aX 23 (pN 22)<|aX 24 (pF 5 1 23)<|aX 25 (pL false 1 24)<|aX 26 (pK c false 100 [25,(cnI 1),(cnI 100000000)])<|aX 6 (pM 26)<|aXZ))
 (ak (ak (ap (rg [0,3,4,5,6,32] <| aX 27 (pM 0)<|aX 28 (pN 27)<|aX 29 (pF 0 1 28)<|aX 30 (pL false 1 29)<|aX 31 (pK c false 97 [30])<|aX 32 (pU .not 31)<|aXZ))
 (bJ (.tmp 32) (ak (ap (rg [2] <| aX 2 (pM (cn (.bool false)))<|aXZ))
 (bV .ret)) (bV .nrm)))
 (ak (ak (ap (rg [0,3,4,5,6,36] <| aX 33 (pM 0)<|aX 34 (pN 33)<|aX 35 (pF 1 1 34)<|aX 36 (pL false 1 35)<|aXZ))
 (bU 0 (ak (ap (rg [0,3,4,5,6,36,37] <| aX 38 (pB .eql 47 36 (cn (.int .i8 1)))<|aX 37 (pM 38)<|aXZ))
 (bJ (.tmp 37) (ak (ap (rg [2] <| aX 39 (pM 0)<|aX 40 (pN 39)<|aX 41 (pF 2 1 40)<|aX 42 (pL false 1 41)<|aX 43 (pB .eql 2 42 (cnI 0))<|aX 44 (pM 43)<|aX 45 (pG 44 true (pM 4))<|aX 46 (pP 44 45 (cn (.bool false)))<|aX 47 (pM 46)<|aX 48 (pG 47 true (pM 5))<|aX 49 (pP 47 48 (cn (.bool false)))<|aX 50 (pM 49)<|aX 51 (pG 50 true (pM 6))<|aX 52 (pP 50 51 (cn (.bool false)))<|aX 2 (pM 52)<|aXZ))
 (bV .ret)) (ak (ap (rg [0,3,4,5,6,36,53] <| aX 54 (pB .eql 47 36 (cn (.int .i8 2)))<|aX 53 (pM 54)<|aXZ))
 (bJ (.tmp 53) (ak (ap (rg [2] <| aX 55 (pM 3)<|aX 56 (pM 55)<|aX 57 (pG 56 true (pM 4))<|aX 58 (pP 56 57 (cn (.bool false)))<|aX 59 (pM 58)<|aX 60 (pG 59 true (pM 5))<|aX 61 (pP 59 60 (cn (.bool false)))<|aX 62 (pM 61)<|aX 63 (pG 62 true (pM 0))<|aX 64 (pG 62 true (pN 63))<|aX 65 (pG 62 true (pF 5 1 64))<|aX 66 (pG 62 true (pL false 1 65))<|aX 67 (pG 62 true (pB .eql 2 66 (cnI 0)))<|aX 68 (pP 62 67 (cn (.bool false)))<|aX 2 (pM 68)<|aXZ))
 (bV .ret)) (ak (ap (rg [0,3,4,6,36,69] <| aX 70 (pB .eql 47 36 (cn (.int .i8 3)))<|aX 69 (pM 70)<|aXZ))
 (bJ (.tmp 69) (ak (ap (rg [2] <| aX 71 (pM 3)<|aX 72 (pM 71)<|aX 73 (pG 72 true (pM 0))<|aX 74 (pG 72 true (pN 73))<|aX 75 (pG 72 true (pF 3 1 74))<|aX 76 (pG 72 true (pL false 1 75))<|aX 77 (pG 72 true (pB .eql 2 76 (cnI 0)))<|aX 78 (pP 72 77 (cn (.bool false)))<|aX 79 (pM 78)<|aX 80 (pG 79 true (pM 0))<|aX 81 (pG 79 true (pN 80))<|aX 82 (pG 79 true (pF 4 1 81))<|aX 83 (pG 79 true (pL false 1 82))<|aX 84 (pG 79 true (pB .eql 2 83 (cnI 0)))<|aX 85 (pP 79 84 (cn (.bool false)))<|aX 86 (pM 85)<|aX 87 (pG 86 true (pM 6))<|aX 88 (pP 86 87 (cn (.bool false)))<|aX 2 (pM 88)<|aXZ))
 (bV .ret)) (ak (ap (rg [0,3,4,89] <| aX 90 (pB .eql 47 36 (cn (.int .i8 4)))<|aX 89 (pM 90)<|aXZ))
 (bJ (.tmp 89) (ak (ap (rg [2] <| aX 91 (pM 3)<|aX 92 (pM 91)<|aX 93 (pG 92 true (pM 4))<|aX 94 (pP 92 93 (cn (.bool false)))<|aX 95 (pM 94)<|aX 96 (pG 95 true (pM 0))<|aX 97 (pG 95 true (pN 96))<|aX 98 (pG 95 true (pF 4 1 97))<|aX 99 (pG 95 true (pL false 1 98))<|aX 100 (pG 95 true (pB .eql 2 99 (cnI 0)))<|aX 101 (pP 95 100 (cn (.bool false)))<|aX 102 (pM 101)<|aX 103 (pG 102 true (pM 0))<|aX 104 (pG 102 true (pN 103))<|aX 105 (pG 102 true (pF 5 1 104))<|aX 106 (pG 102 true (pL false 1 105))<|aX 107 (pG 102 true (pB .eql 2 106 (cnI 0)))<|aX 108 (pP 102 107 (cn (.bool false)))<|aX 2 (pM 108)<|aXZ))
 (bV .ret)) (bV .nrm)))))))))))
 (ak (ap (rg [2] <| aX 2 (pM (cn (.bool false)))<|aXZ))
 (bV .ret)))))))))
theorem Kf (c:bh) (k:Nat):cf cx c 109 E6 k (Tryz.f122.body.getD .skip)=f122 c k:=by kernel_rfl
def FB:Ann:=⟨[(0,r0 [0,1]),(1,r0 [4])],[]⟩
noncomputable def f123 (c:bh) (k:Nat):St:=
 (ak (ap (rg [0,1] <| aX 4 (pM (cn (.bool false)))<|aXZ))
 (ak (ap (rg [4] <| aX 5 (pM 0)<|aX 6 (pM 1)<|aX 7 (pK c false 130 [5,6])<|aX 8 (pB .geq 3 7 (cnI 0))<|aX 4 (pM 8)<|aXZ))
 (bV .ret)))
theorem KM (c:bh) (k:Nat):cf cx c 9 FB k (Tryz.f123.body.getD .skip)=f123 c k:=by kernel_rfl
def EL:Ann:=⟨[(0,r0 [2,3]),(1,⟨[0],[],[],[],[2,3,5],none,[]⟩),(2,r0 [2,3,5,8]),(3,r0 [2,3,5,8,9]),(4,r0 [2,3,5,6,8]),(5,r0 [2,3,5,6,8,18]),(6,⟨[3],[],[],[],[2,3,5,8],none,[]⟩),(7,r0 [2,3,5,8]),(8,r0 [4])],[(3,[2,3,5,8])]⟩
noncomputable def EH (c:bh) (k:Nat):St:=
 (ak (ap (rg [2,3,5,8,9] <| aX 9 (pB .lss 3 8 (cnI 16))<|aXZ))
 (ak (bJ (.tmp 9) (bV .nrm) (bV (.ext 0)))
 (ak (bU 1 (ak (ap (rg [2,3,5,6,8] <| aX 10 (pM 8)<|aX 6 (pM 10)<|aXZ))
 (ak (ap (mM [2,3,5,6,8,18] (aY 11 (pM 6)<|aY 12 (fun n e M=>keep (cb 16 1 (a3 e 2) (a3 e 11) M))<|aY 13 (pL false 1 12)<|aY 14 (pM 6)<|aY 15 (fun n e M=>keep (cb 16 1 (a3 e 3) (a3 e 14) M))<|aY 16 (pL false 1 15)<|aY 17 (pB .add 47 13 16)<|aY 18 (pB .neq 47 17 (cn (.int .i8 0)))<|aYZ) (aXZ)))
 (bJ (.tmp 18) (ap (rg [2,3,5,8] <| aX 19 (pM 5)<|aX 20 (pM 6)<|aX 21 (fun n e M=>keep (eX 2 1 [(a3 e 20)] M))<|aX 22 (fun n e M=>ks n 2 1 8 (a3 e 19) (a3 e 21) M)<|aX 5 (pM 22)<|aXZ)) (bV .nrm)))))
 (ap (rg [2,3,5,8] <| aX 23 (pB .add 3 8 (cnI 1))<|aX 8 (pM 23)<|aXZ)))))
noncomputable def f124 (c:bh) (k:Nat):St:=
 (ak (ap (rg [2,3] <| aX 2 (pBox 16 0)<|aX 3 (pBox 16 1)<|aX 4 (pM (cn .nils))<|aXZ))
 (ak (ap (rg [2,3,5] <| aX 7 (fun n e M=>o8 false n 2 1 [] M)<|aX 5 (pM 7)<|aXZ))
 (ak (ak (ap (rg [2,3,5,8] <| aX 8 (pM (cnI 0))<|aXZ))
 (bU 0 (cD [2,3,5,8] (EH c k) k)))
 (ak (ap (rg [4] <| aX 24 (pM 5)<|aX 4 (pM 24)<|aXZ))
 (bV .ret)))))
theorem Kg (c:bh) (k:Nat):cf cx c 25 EL k (Tryz.f124.body.getD .skip)=f124 c k:=by kernel_rfl
def Ef:Ann:=⟨[(0,r0 [0]),(1,r0 [2])],[]⟩
noncomputable def f125 (c:bh) (k:Nat):St:=
 (ak (ap (rg [0] <| aX 2 (pM (cn (.bool false)))<|aXZ))
 (ak (ap (rg [2] <| aX 3 (pM 0)<|aX 4 (pK c false 100 [3,(cnI 0),(cnI 5)])<|aX 2 (pM 4)<|aXZ))
 (bV .ret)))
theorem J6 (c:bh) (k:Nat):cf cx c 5 Ef k (Tryz.f125.body.getD .skip)=f125 c k:=by kernel_rfl
def FC:Ann:=⟨[(0,r0 [1]),(1,r0 [2])],[]⟩
noncomputable def f126 (c:bh) (k:Nat):St:=
 (ak (ap (rg [1] <| aX 1 (pBox 2 0)<|aX 2 (pM (cnI 0))<|aXZ))
 (ak (ap (mM [2] (aY 3 (pF 1 1 1)<|aY 4 (pL false 1 3)<|aY 5 (fun n e M=>keep (ir .i64 (a3 e 4)))<|aY 6 (pK c false 127 [])<|aY 7 (pF 0 1 1)<|aY 8 (pL false 1 7)<|aY 9 (pI 1 6 8)<|aY 10 (pL false 1 9)<|aY 11 (pB .add 2 5 10)<|aY 2 (pM 11)<|aYZ) (aXZ)))
 (bV .ret)))
theorem Ko (c:bh) (k:Nat):cf cx c 12 FC k (Tryz.f126.body.getD .skip)=f126 c k:=by kernel_rfl
def E8:Ann:=⟨[(0,r0 []),(1,r0 [0])],[]⟩
noncomputable def f127 (c:bh) (k:Nat):St:=
 (ak (ap (rg [] <| aX 0 (pM (cn .nils))<|aXZ))
 (ak (ap (rg [0] <| aX 1 (fun n e M=>keep (eX 2 1 [(.int .i64 1),(.int .i64 2),(.int .i64 4),(.int .i64 6),(.int .i64 9),(.int .i64 12)] M))<|aX 0 (pM 1)<|aXZ))
 (bV .ret)))
theorem Kw (c:bh) (k:Nat):cf cx c 2 E8 k (Tryz.f127.body.getD .skip)=f127 c k:=by kernel_rfl
def Er:Ann:=⟨[(0,r0 [0,1,2,3]),(1,r0 [8])],[]⟩
noncomputable def f128 (c:bh) (k:Nat):St:=
 (ak (ap (rg [0,1,2,3] <| aX 8 (pM (cn (.bool false)))<|aXZ))
 (ak (ap (rg [8] <| aX 9 (pM 0)<|aX 10 (pM 9)<|aX 11 (pG 10 true (pM 1))<|aX 12 (pG 10 true (pM 2))<|aX 13 (pG 10 true (pB .geq 2 11 12))<|aX 14 (pP 10 13 (cn (.bool false)))<|aX 15 (pM 14)<|aX 16 (pG 15 true (pM 1))<|aX 17 (pG 15 true (pM 3))<|aX 18 (pG 15 true (pB .leq 2 16 17))<|aX 19 (pP 15 18 (cn (.bool false)))<|aX 20 (pM 19)<|aX 21 (pG 20 false (pM 0))<|aX 22 (pG 20 false (pU .not 21))<|aX 23 (pG 20 false (pM 22))<|aX 24 (pG 23 true (pM 1))<|aX 25 (pG 23 true (pB .eql 2 24 (cnI 0)))<|aX 26 (pG 20 false (pP 23 25 (cn (.bool false))))<|aX 27 (pP 20 (cn (.bool true)) 26)<|aX 8 (pM 27)<|aXZ))
 (bV .ret)))
theorem J3 (c:bh) (k:Nat):cf cx c 28 Er k (Tryz.f128.body.getD .skip)=f128 c k:=by kernel_rfl
def E9:Ann:=⟨[(0,r0 [0]),(1,r0 [6]),(2,r0 [6,7]),(3,r0 [2,3,4,5]),(4,r0 [6,9]),(5,r0 [2,3,4,5]),(6,r0 [11]),(7,r0 [2,3,4,5]),(8,r0 [2,3,4,5])],[]⟩
noncomputable def f129 (c:bh) (k:Nat):St:=
 (ak (ap (rg [0] <| aX 2 (pM (cn (.bool false)))<|aX 3 (pM (cn (.bool false)))<|aX 4 (pM (cn (.bool false)))<|aX 5 (pM (cn (.bool false)))<|aXZ))
 (ak (ak (ap (rg [6] <| aX 6 (pM 0)<|aXZ))
 (bU 0 (ak (ap (rg [6,7] <| aX 8 (pB .eql 47 6 (cn (.int .i8 1)))<|aX 7 (pM 8)<|aXZ))
 (bJ (.tmp 7) (ak (ap (rg [2,3,4,5] <| aX 2 (pM (cn (.bool false)))<|aX 3 (pM (cn (.bool true)))<|aX 4 (pM (cn (.bool true)))<|aX 5 (pM (cn (.bool true)))<|aXZ))
 (bV .ret)) (ak (ap (rg [6,9] <| aX 10 (pB .eql 47 6 (cn (.int .i8 2)))<|aX 9 (pM 10)<|aXZ))
 (bJ (.tmp 9) (ak (ap (rg [2,3,4,5] <| aX 2 (pM (cn (.bool true)))<|aX 3 (pM (cn (.bool true)))<|aX 4 (pM (cn (.bool true)))<|aX 5 (pM (cn (.bool false)))<|aXZ))
 (bV .ret)) (ak (ap (rg [11] <| aX 12 (pB .eql 47 6 (cn (.int .i8 3)))<|aX 11 (pM 12)<|aXZ))
 (bJ (.tmp 11) (ak (ap (rg [2,3,4,5] <| aX 2 (pM (cn (.bool true)))<|aX 3 (pM (cn (.bool false)))<|aX 4 (pM (cn (.bool false)))<|aX 5 (pM (cn (.bool true)))<|aXZ))
 (bV .ret)) (bV .nrm)))))))))
 (ak (ap (rg [2,3,4,5] <| aX 2 (pM (cn (.bool true)))<|aX 3 (pM (cn (.bool true)))<|aX 4 (pM (cn (.bool false)))<|aX 5 (pM (cn (.bool false)))<|aXZ))
 (bV .ret))))
theorem KS (c:bh) (k:Nat):cf cx c 13 E9 k (Tryz.f129.body.getD .skip)=f129 c k:=by kernel_rfl
def D9:Ann:=⟨[(0,r0 [0,1]),(1,r0 [0,1,7,8]),(2,r0 [0,1,7,8,9]),(3,r0 [0,1,5,7,8]),(4,r0 [0,1,5,7,8,16]),(5,r0 [4]),(6,r0 [0,1,7,8]),(7,r0 [4])],[(2,[0,1,7,8])]⟩
noncomputable def EM (c:bh) (k:Nat):St:=
 (ak (ap (rg [0,1,7,8,9] <| aX 9 (pB .lss 3 8 7)<|aXZ))
 (ak (bJ (.tmp 9) (bV .nrm) (bV (.ext 0)))
 (ak (bU 1 (ak (ap (rg [0,1,5,7,8] <| aX 10 (pM 8)<|aX 5 (pM 10)<|aXZ))
 (ak (ap (rg [0,1,5,7,8,16] <| aX 11 (pM 1)<|aX 12 (pM 0)<|aX 13 (pM 5)<|aX 14 (pI 1 12 13)<|aX 15 (pL false 1 14)<|aX 16 (pB .eql 2 11 15)<|aXZ))
 (bJ (.tmp 16) (ak (ap (rg [4] <| aX 17 (pM 5)<|aX 4 (pM 17)<|aXZ))
 (bV .ret)) (bV .nrm)))))
 (ap (rg [0,1,7,8] <| aX 18 (pB .add 3 8 (cnI 1))<|aX 8 (pM 18)<|aXZ)))))
noncomputable def f130 (c:bh) (k:Nat):St:=
 (ak (ap (rg [0,1] <| aX 4 (pM (cnI 0))<|aXZ))
 (ak (ak (ap (rg [0,1,7,8] <| aX 6 (pM 0)<|aX 7 (dl 24 6)<|aX 8 (pM (cnI 0))<|aXZ))
 (bU 0 (cD [0,1,7,8] (EM c k) k)))
 (ak (ap (rg [4] <| aX 4 (pM (cnI ((-1))))<|aXZ))
 (bV .ret))))
theorem J9 (c:bh) (k:Nat):cf cx c 19 D9 k (Tryz.f130.body.getD .skip)=f130 c k:=by kernel_rfl
def LP:List (Nat×Ann):=[(3,Lr),(5,Lp),(6,Lm),(7,Lk),(8,Lq),(9,Ll),(10,Ht),(11,H8),(12,Jn),(13,Hu),(14,Jb),(15,Je),(16,Jc),(17,IP),(18,I6),(19,IC),(20,GP),(21,JL),(22,Ir),(23,Hn),(24,I3),(25,Iz),(26,I7),(27,Iv),(31,Ig),(32,Hb),(33,Hi),(34,H6),(35,HX),(36,HJ),(37,GI),(38,Iy),(39,Ja),(40,Hg),(41,G8),(42,IR),(43,Jd),(44,HH),(45,HY),(46,JK),(47,H1),(48,I4),(49,Jv),(50,Ha),(51,HS),(52,H3),(53,Js),(54,G1),(55,Jj),(56,IL),(57,HN),(58,IS),(59,Ho),(60,GE),(61,Ib),(62,Jm),(63,H7),(64,Hf),(65,Ie),(66,GN),(67,Jw),(68,IY),(69,Hm),(70,JJ),(71,GQ),(72,Jl),(73,JG),(74,Jy),(75,HF),(76,G6),(77,Jh),(78,GT),(79,JA),(80,IH),(81,Id),(82,Hl),(87,G7),(88,Hv),(89,JH),(90,GM),(91,HP),(92,IV),(93,Hr),(94,G2),(95,Jo),(96,Iw),(97,GY),(98,JI),(99,G5),(100,Ea),(101,EW),(102,ED),(103,Ej),(104,Ft),(105,Fk),(106,Ew),(107,E1),(108,Eh),(109,Ec),(110,Ey),(111,E5),(112,Fu),(113,Fo),(115,EG),(116,Fn),(117,EV),(118,EO),(119,Ei),(120,El),(121,E4),(122,E6),(123,FB),(124,EL),(125,Ef),(126,FC),(127,E8),(128,Er),(129,E9),(130,D9)]
noncomputable def OG:Nat->bh:=nN cx (Go.Ab.look LP) (fun _ _ _=>none) (fun _=>false)
def O4 (f:Nat):Bool:=fg [62,120,121] f
noncomputable def Ok:bh:=l6 (nN cx (Go.Ab.look LP) (fun _ _ _=>none) (fun _=>false) 3)
noncomputable def CN:Nat->bh:=nN cx (Go.Ab.look LP) Ok O4
end Go.Proofs.YtkdinadmheomfaaGreat
