/- Printed by a program of ours (ext.py). -/
import Derived.Test.YtfabokkhdalbeadLnkDoDealx0
set_option linter.unusedVariables false
set_option maxRecDepth 100000
set_option maxHeartbeats 2000000
namespace Go.Proofs.Ytfabokkhdalbead
open Go Go.Ab
/-! ### loop.example/g01263/impl.ValidBook (f66) -/
def impl_ValidBook_c1_Q (a1 : Book) (g : Bool) (q : Out) : Prop := q.1 = .nrm ∧ eget q.2.1 1 = .pt none [.int .i64 a1.Day, .sl none (a1.Cash.map (cI .i64)), .sl none (a1.Tallies.map Tally.c)] ∧ eget q.2.1 3 = .int .i64 (a1.Cash.length : Int) ∧ eget q.2.1 29 = .bool g
abbrev impl_ValidBook_b1_S := Int
abbrev impl_ValidBook_b1_R := Unit ⊕ Unit
def impl_ValidBook_b1_RS (a1 : Book) (s : impl_ValidBook_b1_S) (e : Env) (M : Mem) : Prop := eget e 1 = .pt none [.int .i64 a1.Day, .sl none (a1.Cash.map (cI .i64)), .sl none (a1.Tallies.map Tally.c)] ∧ eget e 3 = .int .i64 (a1.Cash.length : Int) ∧ eget e 31 = .sl none (a1.Cash.map (cI .i64)) ∧ eget e 32 = .int .i64 (a1.Cash.length : Int) ∧ eget e 33 = .int .i64 s
def impl_ValidBook_b1_RR (a1 : Book) (r : impl_ValidBook_b1_R) (x : Ex) (e : Env) (M : Mem) : Prop :=
  match r with
  | (.inl g) => x = .ret ∧ eget e 2 = .bool false
  | (.inr g) => x = .ext 0 ∧ eget e 1 = .pt none [.int .i64 a1.Day, .sl none (a1.Cash.map (cI .i64)), .sl none (a1.Tallies.map Tally.c)] ∧ eget e 3 = .int .i64 (a1.Cash.length : Int)
noncomputable def impl_ValidBook_b1 (a1 : Book) : impl_ValidBook_b1_S → Option (impl_ValidBook_b1_S ⊕ impl_ValidBook_b1_R) := fun s1_1 =>
 if (decide (s1_1 < (a1.Cash.length : Int))) = true then
  (rd a1.Cash s1_1).bind fun x83 =>
  (impl_isAmount x83).bind fun r94 =>
  if r94 = true then
   some (.inl (IntKind.i64.wrap (s1_1 + 1)))
  else
   some (.inr (.inl ()))
 else
  some (.inr (.inr ()))
theorem impl_ValidBook_b1_ok (a1 : Book) (s : impl_ValidBook_b1_S) (r : impl_ValidBook_b1_S ⊕ impl_ValidBook_b1_R) (h : impl_ValidBook_b1 a1 s = some r) (e : Env) (M : Mem) (hs : impl_ValidBook_b1_RS a1 s e M) : Ev (fun k => (f66_l5 (CN k) k (prune [1, 3, 31, 32, 33] e) M).bind fun q => some q) (bQ (impl_ValidBook_b1_RS a1) (impl_ValidBook_b1_RR a1) r) := by
 revert h hs
 revert s
 intro s1_1 h hs
 unfold impl_ValidBook_b1 at h
 obtain ⟨h64, h66, h68, h70, h72⟩ := hs
 generalize he63 : prune [1, 3, 31, 32, 33] e = e62
 have h65 := envp he63.symm rfl h64
 have h67 := envp he63.symm rfl h66
 have h69 := envp he63.symm rfl h68
 have h71 := envp he63.symm rfl h70
 have h73 := envp he63.symm rfl h72
 refine Ev.seq ?_
 refine Ev.reg (fun _ => rfl) ?_
 refine Ev.nxk (bLss h73 h71) ?_
 refine Ev.rend ?_
 intro e74 he75
 have h76 : eget e74 1 = .pt none [.int .i64 a1.Day, .sl none (a1.Cash.map (cI .i64)), .sl none (a1.Tallies.map Tally.c)] := envp he75 rfl h65
 have h77 : eget e74 3 = .int .i64 (a1.Cash.length : Int) := envp he75 rfl h67
 have h78 : eget e74 31 = .sl none (a1.Cash.map (cI .i64)) := envp he75 rfl h69
 have h79 : eget e74 32 = .int .i64 (a1.Cash.length : Int) := envp he75 rfl h71
 have h80 : eget e74 33 = .int .i64 s1_1 := envp he75 rfl h73
 have h81 : eget e74 34 = .bool (decide (s1_1 < (a1.Cash.length : Int))) := envp he75 rfl rfl
 clear h65 h67 h69 h71 h73
 refine Ev.kseqN ?_
 refine Ev.seq ?_
 rcases ite_some h with ⟨hb82, h⟩ | ⟨hb82, h⟩
 ·refine Ev.condT h81 hb82 ?_
  refine Ev.ex ?_
  refine Ev.kseqN ?_
  refine Ev.seq ?_
  refine Ev.blk ?_
  refine Ev.seq ?_
  refine Ev.reg (fun _ => rfl) ?_
  obtain ⟨x83, hx84, h⟩ := bind_some h
  refine Ev.nxk (ixS h78 h80 hx84 (cI_fl _)) ?_
  refine Ev.nxk (ldP rfl rfl) ?_
  refine Ev.nxk (mvO rfl) ?_
  refine Ev.rend ?_
  intro e85 he86
  have h87 := envp (t := 1) he86 rfl h76
  have h88 := envp (t := 3) he86 rfl h77
  have h89 : eget e85 5 = .int .i64 x83 := envp he86 rfl rfl
  have h90 := envp (t := 31) he86 rfl h78
  have h91 := envp (t := 32) he86 rfl h79
  have h92 := envp (t := 33) he86 rfl h80
  clear h76 h77 h78 h79 h80 h81
  refine Ev.kseqN ?_
  refine Ev.seq ?_
  refine Ev.reg (fun _ => rfl) ?_
  refine Ev.nxk (mvO h89) ?_
  obtain ⟨r94, hx93, h⟩ := bind_some h
  refine Ev.nxck (Ev.call (v := .bool r94) rfl (cns rfl rfl) rfl (impl_isAmount_ok x83 _ hx93) (fun h => nomatch (show false = true from h))) ?_
  refine Ev.nxk (uNot rfl) ?_
  refine Ev.rend ?_
  intro e95 he96
  have h97 := envp (t := 1) he96 rfl h87
  have h98 := envp (t := 3) he96 rfl h88
  have h99 := envp (t := 31) he96 rfl h90
  have h100 := envp (t := 32) he96 rfl h91
  have h101 := envp (t := 33) he96 rfl h92
  have h102 : eget e95 39 = .bool (!r94) := envp he96 rfl rfl
  clear h87 h88 h89 h90 h91 h92
  refine Ev.kseqN ?_
  rcases ite_some h with ⟨hb103, h⟩ | ⟨hb103, h⟩
  ·refine Ev.condF h102 (congrArg Bool.not hb103) ?_
   refine Ev.ex ?_
   refine Ev.kblkN ?_
   refine Ev.kseqN ?_
   refine Ev.reg (fun _ => rfl) ?_
   refine Ev.nxk (bAdd h101 rfl) ?_
   refine Ev.nxk (mvO rfl) ?_
   refine Ev.rend ?_
   intro e104 he105
   have h106 := envp (t := 1) he105 rfl h97
   have h107 := envp (t := 3) he105 rfl h98
   have h108 := envp (t := 31) he105 rfl h99
   have h109 := envp (t := 32) he105 rfl h100
   have h110 : eget e104 33 = .int .i64 (IntKind.i64.wrap (s1_1 + 1)) := envp he105 rfl rfl
   clear h100 h102 h97 h98 h99
   cases h
   exact Ev.kid (bQ_n (RS := (impl_ValidBook_b1_RS a1)) (RR := (impl_ValidBook_b1_RR a1)) (And.intro h106 (And.intro h107 (And.intro h108 (And.intro h109 h110)))))
  refine Ev.condT h102 (congrArg Bool.not hb103) ?_
  refine Ev.seq ?_
  refine Ev.reg (fun _ => rfl) ?_
  refine Ev.nxk (mvO rfl) ?_
  refine Ev.rend ?_
  intro e111 he112
  have h113 : eget e111 2 = .bool false := envp he112 rfl rfl
  clear h100 h101 h102 h97 h98 h99
  refine Ev.kseqN ?_
  refine Ev.ex ?_
  refine Ev.kblkR ?_
  refine Ev.kseqR ?_
  cases h
  exact Ev.kid (bQ_x (RS := (impl_ValidBook_b1_RS a1)) (RR := (impl_ValidBook_b1_RR a1)) (by intro h; cases h) (And.intro rfl h113))
 refine Ev.condF h81 hb82 ?_
 refine Ev.ex ?_
 refine Ev.kseqE ?_
 cases h
 exact Ev.kid (bQ_x (RS := (impl_ValidBook_b1_RS a1)) (RR := (impl_ValidBook_b1_RR a1)) (by intro h; cases h) (And.intro rfl (And.intro h76 h77)))
abbrev impl_ValidBook_b2_S := Int × Int
abbrev impl_ValidBook_b2_R := Unit ⊕ Unit
def impl_ValidBook_b2_RS (a1 : Book) (s : impl_ValidBook_b2_S) (e : Env) (M : Mem) : Prop := eget e 1 = .pt none [.int .i64 a1.Day, .sl none (a1.Cash.map (cI .i64)), .sl none (a1.Tallies.map Tally.c)] ∧ eget e 3 = .int .i64 (a1.Cash.length : Int) ∧ eget e 6 = .int .i64 s.1 ∧ eget e 42 = .sl none (a1.Tallies.map Tally.c) ∧ eget e 43 = .int .i64 (a1.Tallies.length : Int) ∧ eget e 44 = .int .i64 s.2
def impl_ValidBook_b2_RR (a1 : Book) (r : impl_ValidBook_b2_R) (x : Ex) (e : Env) (M : Mem) : Prop :=
  match r with
  | (.inl g) => x = .ret ∧ eget e 2 = .bool false
  | (.inr g) => x = .ext 2 ∧ True
noncomputable def impl_ValidBook_b2 (a1 : Book) : impl_ValidBook_b2_S → Option (impl_ValidBook_b2_S ⊕ impl_ValidBook_b2_R) := fun (s2_1, s2_2) =>
 if (decide (s2_2 < (a1.Tallies.length : Int))) = true then
  (rd a1.Tallies s2_2).bind fun x175 =>
  (impl_arePeople (a1.Cash.length : Int) [x175.Debtor, x175.Holder]).bind fun r194 =>
  if r194 = true then
   if (decide (x175.Cut < s2_1)) = true then
    some (.inr (.inl ()))
   else
    if (decide (x175.Cut > a1.Day)) = true then
     some (.inr (.inl ()))
    else
     if (decide (x175.Amount < 1)) = true then
      some (.inr (.inl ()))
     else
      if (decide (x175.Amount > 100000000)) = true then
       some (.inr (.inl ()))
      else
       if (decide (x175.Left < 0)) = true then
        some (.inr (.inl ()))
       else
        if (decide (x175.Left > x175.Amount)) = true then
         some (.inr (.inl ()))
        else
         if (x175.Debtor == x175.Holder) = true then
          if (x175.Left != 0) = true then
           some (.inr (.inl ()))
          else
           some (.inl (x175.Cut, (IntKind.i64.wrap (s2_2 + 1))))
         else
          some (.inl (x175.Cut, (IntKind.i64.wrap (s2_2 + 1))))
  else
   some (.inr (.inl ()))
 else
  some (.inr (.inr ()))
theorem impl_ValidBook_b2_ok (a1 : Book) (s : impl_ValidBook_b2_S) (r : impl_ValidBook_b2_S ⊕ impl_ValidBook_b2_R) (h : impl_ValidBook_b2 a1 s = some r) (e : Env) (M : Mem) (hs : impl_ValidBook_b2_RS a1 s e M) : Ev (fun k => (f66_l12 (CN k) k (prune [1, 3, 6, 42, 43, 44] e) M).bind fun q => some q) (bQ (impl_ValidBook_b2_RS a1) (impl_ValidBook_b2_RR a1) r) := by
 obtain ⟨s2_1, s2_2⟩ := s
 unfold impl_ValidBook_b2 at h
 obtain ⟨h153, h155, h157, h159, h161, h163⟩ := hs
 generalize he152 : prune [1, 3, 6, 42, 43, 44] e = e151
 have h154 := envp he152.symm rfl h153
 have h156 := envp he152.symm rfl h155
 have h158 := envp he152.symm rfl h157
 have h160 := envp he152.symm rfl h159
 have h162 := envp he152.symm rfl h161
 have h164 := envp he152.symm rfl h163
 refine Ev.seq ?_
 refine Ev.reg (fun _ => rfl) ?_
 refine Ev.nxk (bLss h164 h162) ?_
 refine Ev.rend ?_
 intro e165 he166
 have h167 : eget e165 1 = .pt none [.int .i64 a1.Day, .sl none (a1.Cash.map (cI .i64)), .sl none (a1.Tallies.map Tally.c)] := envp he166 rfl h154
 have h168 : eget e165 3 = .int .i64 (a1.Cash.length : Int) := envp he166 rfl h156
 have h169 : eget e165 6 = .int .i64 s2_1 := envp he166 rfl h158
 have h170 : eget e165 42 = .sl none (a1.Tallies.map Tally.c) := envp he166 rfl h160
 have h171 : eget e165 43 = .int .i64 (a1.Tallies.length : Int) := envp he166 rfl h162
 have h172 : eget e165 44 = .int .i64 s2_2 := envp he166 rfl h164
 have h173 : eget e165 45 = .bool (decide (s2_2 < (a1.Tallies.length : Int))) := envp he166 rfl rfl
 clear h154 h156 h158 h160 h162 h164
 refine Ev.kseqN ?_
 refine Ev.seq ?_
 rcases ite_some h with ⟨hb174, h⟩ | ⟨hb174, h⟩
 ·refine Ev.condT h173 hb174 ?_
  refine Ev.ex ?_
  refine Ev.kseqN ?_
  refine Ev.seq ?_
  refine Ev.blk ?_
  refine Ev.seq ?_
  refine Ev.reg (fun _ => rfl) ?_
  obtain ⟨x175, hx176, h⟩ := bind_some h
  refine Ev.nxk (ixS h170 h172 hx176 Tally.fl) ?_
  refine Ev.nxk (ldPA rfl rfl rfl) ?_
  refine Ev.nxpush (alO zero156) ?_
  intro M178 hM179
  have o180 : M178[M.length]? = some (.live ⟨.box, 156, 5, [[.int .i64 0, .int .i64 0, .int .i64 0, .int .i64 0, .int .i64 0]]⟩) := push_new hM179
  refine Ev.nxput (stO rfl rfl o180 rfl rfl ⟨rfl, ble rfl⟩ rfl rfl) ?_
  intro M181 hM182
  have o183 : M181[M.length]? = some (.live ⟨.box, 156, 5, [[.int .i64 x175.Debtor, .int .i64 x175.Holder, .int .i64 x175.Cut, .int .i64 x175.Amount, .int .i64 x175.Left]]⟩) := set_same hM182 o180
  refine Ev.rend ?_
  intro e184 he185
  have h186 := envp (t := 1) he185 rfl h167
  have h187 := envp (t := 3) he185 rfl h168
  have h188 := envp (t := 6) he185 rfl h169
  have h189 : eget e184 8 = .loc M.length 1 0 0 := envp he185 rfl rfl
  have h190 := envp (t := 42) he185 rfl h170
  have h191 := envp (t := 43) he185 rfl h171
  have h192 := envp (t := 44) he185 rfl h172
  clear h167 h168 h169 h170 h171 h172 h173
  refine Ev.kseqN ?_
  refine Ev.seq ?_
  refine Ev.seq ?_
  refine Ev.reg (fun _ => rfl) ?_
  refine Ev.nxk (mvO h187) ?_
  refine Ev.nxk (faO h189 o183 rfl) ?_
  refine Ev.nxk (ldO rfl o183 rfl rfl rfl) ?_
  refine Ev.nxk (faO h189 o183 rfl) ?_
  refine Ev.nxk (ldO rfl o183 rfl rfl rfl) ?_
  refine Ev.nxk (litI (cns rfl (cns rfl rfl)) rfl ⟨rfl, by decide⟩) ?_
  obtain ⟨r194, hx193, h⟩ := bind_some h
  refine Ev.nxck (Ev.call (v := .bool r194) rfl (cns rfl (cns rfl rfl)) rfl (impl_arePeople_ok (a1.Cash.length : Int) [x175.Debtor, x175.Holder] _ hx193) (fun h => nomatch (show false = true from h))) ?_
  refine Ev.nxk (uNot rfl) ?_
  refine Ev.nxk (mvO rfl) ?_
  rcases ite_some h with ⟨hb195, h⟩ | ⟨hb195, h⟩
  ·refine Ev.nxk (guF rfl (congrArg Bool.not hb195) (faO h189 o183 rfl)) ?_
   refine Ev.nxk (guF rfl (congrArg Bool.not hb195) (ldO rfl o183 rfl rfl rfl)) ?_
   refine Ev.nxk (guF rfl (congrArg Bool.not hb195) (mvO h188)) ?_
   refine Ev.nxk (guF rfl (congrArg Bool.not hb195) (bLss rfl rfl)) ?_
   refine Ev.nxk (pkF rfl (congrArg Bool.not hb195) rfl) ?_
   refine Ev.nxk (mvO rfl) ?_
   rcases ite_some h with ⟨hb196, h⟩ | ⟨hb196, h⟩
   ·refine Ev.nxk (gsF rfl hb196) ?_
    refine Ev.nxk (gsF rfl hb196) ?_
    refine Ev.nxk (gsF rfl hb196) ?_
    refine Ev.nxk (gsF rfl hb196) ?_
    refine Ev.nxk (gsF rfl hb196) ?_
    refine Ev.nxk (pkT rfl hb196 rfl) ?_
    refine Ev.nxk (mvO rfl) ?_
    refine Ev.nxk (gsF rfl rfl) ?_
    refine Ev.nxk (gsF rfl rfl) ?_
    refine Ev.nxk (gsF rfl rfl) ?_
    refine Ev.nxk (pkT rfl rfl rfl) ?_
    refine Ev.nxk (mvO rfl) ?_
    refine Ev.nxk (gsF rfl rfl) ?_
    refine Ev.nxk (gsF rfl rfl) ?_
    refine Ev.nxk (gsF rfl rfl) ?_
    refine Ev.nxk (pkT rfl rfl rfl) ?_
    refine Ev.nxk (mvO rfl) ?_
    refine Ev.nxk (gsF rfl rfl) ?_
    refine Ev.nxk (gsF rfl rfl) ?_
    refine Ev.nxk (gsF rfl rfl) ?_
    refine Ev.nxk (pkT rfl rfl rfl) ?_
    refine Ev.nxk (mvO rfl) ?_
    refine Ev.nxk (gsF rfl rfl) ?_
    refine Ev.nxk (gsF rfl rfl) ?_
    refine Ev.nxk (gsF rfl rfl) ?_
    refine Ev.nxk (gsF rfl rfl) ?_
    refine Ev.nxk (gsF rfl rfl) ?_
    refine Ev.nxk (pkT rfl rfl rfl) ?_
    refine Ev.nxk (mvO rfl) ?_
    refine Ev.nxk (gsF rfl rfl) ?_
    refine Ev.nxk (gsF rfl rfl) ?_
    refine Ev.nxk (gsF rfl rfl) ?_
    refine Ev.nxk (gsF rfl rfl) ?_
    refine Ev.nxk (gsF rfl rfl) ?_
    refine Ev.nxk (gsF rfl rfl) ?_
    refine Ev.nxk (gsU rfl) ?_
    refine Ev.nxk (gsU rfl) ?_
    refine Ev.nxk (gsU rfl) ?_
    refine Ev.nxk (gsF rfl rfl) ?_
    refine Ev.nxk (pkT rfl rfl rfl) ?_
    refine Ev.rend ?_
    intro e197 he198
    have h199 := envp (t := 1) he198 rfl h186
    have h200 := envp (t := 3) he198 rfl h187
    have h201 := envp (t := 8) he198 rfl h189
    have h202 := envp (t := 42) he198 rfl h190
    have h203 := envp (t := 43) he198 rfl h191
    have h204 := envp (t := 44) he198 rfl h192
    have h205 : eget e197 102 = .bool true := envp he198 rfl rfl
    clear h186 h187 h188 h189 h190 h191 h192
    refine Ev.kseqN ?_
    refine Ev.condT h205 rfl ?_
    refine Ev.seq ?_
    refine Ev.reg (fun _ => rfl) ?_
    refine Ev.nxk (mvO rfl) ?_
    refine Ev.rend ?_
    intro e206 he207
    have h208 : eget e206 2 = .bool false := envp he207 rfl rfl
    clear h199 h200 h201 h202 h203 h204 h205
    refine Ev.kseqN ?_
    refine Ev.ex ?_
    refine Ev.kseqR ?_
    refine Ev.kblkR ?_
    refine Ev.kseqR ?_
    cases h
    exact Ev.kid (bQ_x (RS := (impl_ValidBook_b2_RS a1)) (RR := (impl_ValidBook_b2_RR a1)) (by intro h; cases h) (And.intro rfl h208))
   refine Ev.nxk (guF rfl hb196 (faO h189 o183 rfl)) ?_
   refine Ev.nxk (guF rfl hb196 (ldO rfl o183 rfl rfl rfl)) ?_
   refine Ev.nxk (guF rfl hb196 (faP h186 ⟨ble rfl, blt rfl⟩ rfl)) ?_
   refine Ev.nxk (guF rfl hb196 (ldP rfl rfl)) ?_
   refine Ev.nxk (guF rfl hb196 (bGtr rfl rfl)) ?_
   refine Ev.nxk (pkF rfl hb196 rfl) ?_
   refine Ev.nxk (mvO rfl) ?_
   rcases ite_some h with ⟨hb209, h⟩ | ⟨hb209, h⟩
   ·refine Ev.nxk (gsF rfl hb209) ?_
    refine Ev.nxk (gsF rfl hb209) ?_
    refine Ev.nxk (gsF rfl hb209) ?_
    refine Ev.nxk (pkT rfl hb209 rfl) ?_
    refine Ev.nxk (mvO rfl) ?_
    refine Ev.nxk (gsF rfl rfl) ?_
    refine Ev.nxk (gsF rfl rfl) ?_
    refine Ev.nxk (gsF rfl rfl) ?_
    refine Ev.nxk (pkT rfl rfl rfl) ?_
    refine Ev.nxk (mvO rfl) ?_
    refine Ev.nxk (gsF rfl rfl) ?_
    refine Ev.nxk (gsF rfl rfl) ?_
    refine Ev.nxk (gsF rfl rfl) ?_
    refine Ev.nxk (pkT rfl rfl rfl) ?_
    refine Ev.nxk (mvO rfl) ?_
    refine Ev.nxk (gsF rfl rfl) ?_
    refine Ev.nxk (gsF rfl rfl) ?_
    refine Ev.nxk (gsF rfl rfl) ?_
    refine Ev.nxk (gsF rfl rfl) ?_
    refine Ev.nxk (gsF rfl rfl) ?_
    refine Ev.nxk (pkT rfl rfl rfl) ?_
    refine Ev.nxk (mvO rfl) ?_
    refine Ev.nxk (gsF rfl rfl) ?_
    refine Ev.nxk (gsF rfl rfl) ?_
    refine Ev.nxk (gsF rfl rfl) ?_
    refine Ev.nxk (gsF rfl rfl) ?_
    refine Ev.nxk (gsF rfl rfl) ?_
    refine Ev.nxk (gsF rfl rfl) ?_
    refine Ev.nxk (gsU rfl) ?_
    refine Ev.nxk (gsU rfl) ?_
    refine Ev.nxk (gsU rfl) ?_
    refine Ev.nxk (gsF rfl rfl) ?_
    refine Ev.nxk (pkT rfl rfl rfl) ?_
    refine Ev.rend ?_
    intro e210 he211
    have h212 := envp (t := 1) he211 rfl h186
    have h213 := envp (t := 3) he211 rfl h187
    have h214 := envp (t := 8) he211 rfl h189
    have h215 := envp (t := 42) he211 rfl h190
    have h216 := envp (t := 43) he211 rfl h191
    have h217 := envp (t := 44) he211 rfl h192
    have h218 : eget e210 102 = .bool true := envp he211 rfl rfl
    clear h186 h187 h188 h189 h190 h191 h192
    refine Ev.kseqN ?_
    refine Ev.condT h218 rfl ?_
    refine Ev.seq ?_
    refine Ev.reg (fun _ => rfl) ?_
    refine Ev.nxk (mvO rfl) ?_
    refine Ev.rend ?_
    intro e219 he220
    have h221 : eget e219 2 = .bool false := envp he220 rfl rfl
    clear h212 h213 h214 h215 h216 h217 h218
    refine Ev.kseqN ?_
    refine Ev.ex ?_
    refine Ev.kseqR ?_
    refine Ev.kblkR ?_
    refine Ev.kseqR ?_
    cases h
    exact Ev.kid (bQ_x (RS := (impl_ValidBook_b2_RS a1)) (RR := (impl_ValidBook_b2_RR a1)) (by intro h; cases h) (And.intro rfl h221))
   refine Ev.nxk (guF rfl hb209 (faO h189 o183 rfl)) ?_
   refine Ev.nxk (guF rfl hb209 (ldO rfl o183 rfl rfl rfl)) ?_
   refine Ev.nxk (guF rfl hb209 (bLss rfl rfl)) ?_
   refine Ev.nxk (pkF rfl hb209 rfl) ?_
   refine Ev.nxk (mvO rfl) ?_
   rcases ite_some h with ⟨hb222, h⟩ | ⟨hb222, h⟩
   ·refine Ev.nxk (gsF rfl hb222) ?_
    refine Ev.nxk (gsF rfl hb222) ?_
    refine Ev.nxk (gsF rfl hb222) ?_
    refine Ev.nxk (pkT rfl hb222 rfl) ?_
    refine Ev.nxk (mvO rfl) ?_
    refine Ev.nxk (gsF rfl rfl) ?_
    refine Ev.nxk (gsF rfl rfl) ?_
    refine Ev.nxk (gsF rfl rfl) ?_
    refine Ev.nxk (pkT rfl rfl rfl) ?_
    refine Ev.nxk (mvO rfl) ?_
    refine Ev.nxk (gsF rfl rfl) ?_
    refine Ev.nxk (gsF rfl rfl) ?_
    refine Ev.nxk (gsF rfl rfl) ?_
    refine Ev.nxk (gsF rfl rfl) ?_
    refine Ev.nxk (gsF rfl rfl) ?_
    refine Ev.nxk (pkT rfl rfl rfl) ?_
    refine Ev.nxk (mvO rfl) ?_
    refine Ev.nxk (gsF rfl rfl) ?_
    refine Ev.nxk (gsF rfl rfl) ?_
    refine Ev.nxk (gsF rfl rfl) ?_
    refine Ev.nxk (gsF rfl rfl) ?_
    refine Ev.nxk (gsF rfl rfl) ?_
    refine Ev.nxk (gsF rfl rfl) ?_
    refine Ev.nxk (gsU rfl) ?_
    refine Ev.nxk (gsU rfl) ?_
    refine Ev.nxk (gsU rfl) ?_
    refine Ev.nxk (gsF rfl rfl) ?_
    refine Ev.nxk (pkT rfl rfl rfl) ?_
    refine Ev.rend ?_
    intro e223 he224
    have h225 := envp (t := 1) he224 rfl h186
    have h226 := envp (t := 3) he224 rfl h187
    have h227 := envp (t := 8) he224 rfl h189
    have h228 := envp (t := 42) he224 rfl h190
    have h229 := envp (t := 43) he224 rfl h191
    have h230 := envp (t := 44) he224 rfl h192
    have h231 : eget e223 102 = .bool true := envp he224 rfl rfl
    clear h186 h187 h188 h189 h190 h191 h192
    refine Ev.kseqN ?_
    refine Ev.condT h231 rfl ?_
    refine Ev.seq ?_
    refine Ev.reg (fun _ => rfl) ?_
    refine Ev.nxk (mvO rfl) ?_
    refine Ev.rend ?_
    intro e232 he233
    have h234 : eget e232 2 = .bool false := envp he233 rfl rfl
    clear h225 h226 h227 h228 h229 h230 h231
    refine Ev.kseqN ?_
    refine Ev.ex ?_
    refine Ev.kseqR ?_
    refine Ev.kblkR ?_
    refine Ev.kseqR ?_
    cases h
    exact Ev.kid (bQ_x (RS := (impl_ValidBook_b2_RS a1)) (RR := (impl_ValidBook_b2_RR a1)) (by intro h; cases h) (And.intro rfl h234))
   refine Ev.nxk (guF rfl hb222 (faO h189 o183 rfl)) ?_
   refine Ev.nxk (guF rfl hb222 (ldO rfl o183 rfl rfl rfl)) ?_
   refine Ev.nxk (guF rfl hb222 (bGtr rfl rfl)) ?_
   refine Ev.nxk (pkF rfl hb222 rfl) ?_
   refine Ev.nxk (mvO rfl) ?_
   rcases ite_some h with ⟨hb235, h⟩ | ⟨hb235, h⟩
   ·refine Ev.nxk (gsF rfl hb235) ?_
    refine Ev.nxk (gsF rfl hb235) ?_
    refine Ev.nxk (gsF rfl hb235) ?_
    refine Ev.nxk (pkT rfl hb235 rfl) ?_
    refine Ev.nxk (mvO rfl) ?_
    refine Ev.nxk (gsF rfl rfl) ?_
    refine Ev.nxk (gsF rfl rfl) ?_
    refine Ev.nxk (gsF rfl rfl) ?_
    refine Ev.nxk (gsF rfl rfl) ?_
    refine Ev.nxk (gsF rfl rfl) ?_
    refine Ev.nxk (pkT rfl rfl rfl) ?_
    refine Ev.nxk (mvO rfl) ?_
    refine Ev.nxk (gsF rfl rfl) ?_
    refine Ev.nxk (gsF rfl rfl) ?_
    refine Ev.nxk (gsF rfl rfl) ?_
    refine Ev.nxk (gsF rfl rfl) ?_
    refine Ev.nxk (gsF rfl rfl) ?_
    refine Ev.nxk (gsF rfl rfl) ?_
    refine Ev.nxk (gsU rfl) ?_
    refine Ev.nxk (gsU rfl) ?_
    refine Ev.nxk (gsU rfl) ?_
    refine Ev.nxk (gsF rfl rfl) ?_
    refine Ev.nxk (pkT rfl rfl rfl) ?_
    refine Ev.rend ?_
    intro e236 he237
    have h238 := envp (t := 1) he237 rfl h186
    have h239 := envp (t := 3) he237 rfl h187
    have h240 := envp (t := 8) he237 rfl h189
    have h241 := envp (t := 42) he237 rfl h190
    have h242 := envp (t := 43) he237 rfl h191
    have h243 := envp (t := 44) he237 rfl h192
    have h244 : eget e236 102 = .bool true := envp he237 rfl rfl
    clear h186 h187 h188 h189 h190 h191 h192
    refine Ev.kseqN ?_
    refine Ev.condT h244 rfl ?_
    refine Ev.seq ?_
    refine Ev.reg (fun _ => rfl) ?_
    refine Ev.nxk (mvO rfl) ?_
    refine Ev.rend ?_
    intro e245 he246
    have h247 : eget e245 2 = .bool false := envp he246 rfl rfl
    clear h238 h239 h240 h241 h242 h243 h244
    refine Ev.kseqN ?_
    refine Ev.ex ?_
    refine Ev.kseqR ?_
    refine Ev.kblkR ?_
    refine Ev.kseqR ?_
    cases h
    exact Ev.kid (bQ_x (RS := (impl_ValidBook_b2_RS a1)) (RR := (impl_ValidBook_b2_RR a1)) (by intro h; cases h) (And.intro rfl h247))
   refine Ev.nxk (guF rfl hb235 (faO h189 o183 rfl)) ?_
   refine Ev.nxk (guF rfl hb235 (ldO rfl o183 rfl rfl rfl)) ?_
   refine Ev.nxk (guF rfl hb235 (bLss rfl rfl)) ?_
   refine Ev.nxk (pkF rfl hb235 rfl) ?_
   refine Ev.nxk (mvO rfl) ?_
   rcases ite_some h with ⟨hb248, h⟩ | ⟨hb248, h⟩
   ·refine Ev.nxk (gsF rfl hb248) ?_
    refine Ev.nxk (gsF rfl hb248) ?_
    refine Ev.nxk (gsF rfl hb248) ?_
    refine Ev.nxk (gsF rfl hb248) ?_
    refine Ev.nxk (gsF rfl hb248) ?_
    refine Ev.nxk (pkT rfl hb248 rfl) ?_
    refine Ev.nxk (mvO rfl) ?_
    refine Ev.nxk (gsF rfl rfl) ?_
    refine Ev.nxk (gsF rfl rfl) ?_
    refine Ev.nxk (gsF rfl rfl) ?_
    refine Ev.nxk (gsF rfl rfl) ?_
    refine Ev.nxk (gsF rfl rfl) ?_
    refine Ev.nxk (gsF rfl rfl) ?_
    refine Ev.nxk (gsU rfl) ?_
    refine Ev.nxk (gsU rfl) ?_
    refine Ev.nxk (gsU rfl) ?_
    refine Ev.nxk (gsF rfl rfl) ?_
    refine Ev.nxk (pkT rfl rfl rfl) ?_
    refine Ev.rend ?_
    intro e249 he250
    have h251 := envp (t := 1) he250 rfl h186
    have h252 := envp (t := 3) he250 rfl h187
    have h253 := envp (t := 8) he250 rfl h189
    have h254 := envp (t := 42) he250 rfl h190
    have h255 := envp (t := 43) he250 rfl h191
    have h256 := envp (t := 44) he250 rfl h192
    have h257 : eget e249 102 = .bool true := envp he250 rfl rfl
    clear h186 h187 h188 h189 h190 h191 h192
    refine Ev.kseqN ?_
    refine Ev.condT h257 rfl ?_
    refine Ev.seq ?_
    refine Ev.reg (fun _ => rfl) ?_
    refine Ev.nxk (mvO rfl) ?_
    refine Ev.rend ?_
    intro e258 he259
    have h260 : eget e258 2 = .bool false := envp he259 rfl rfl
    clear h251 h252 h253 h254 h255 h256 h257
    refine Ev.kseqN ?_
    refine Ev.ex ?_
    refine Ev.kseqR ?_
    refine Ev.kblkR ?_
    refine Ev.kseqR ?_
    cases h
    exact Ev.kid (bQ_x (RS := (impl_ValidBook_b2_RS a1)) (RR := (impl_ValidBook_b2_RR a1)) (by intro h; cases h) (And.intro rfl h260))
   refine Ev.nxk (guF rfl hb248 (faO h189 o183 rfl)) ?_
   refine Ev.nxk (guF rfl hb248 (ldO rfl o183 rfl rfl rfl)) ?_
   refine Ev.nxk (guF rfl hb248 (faO h189 o183 rfl)) ?_
   refine Ev.nxk (guF rfl hb248 (ldO rfl o183 rfl rfl rfl)) ?_
   refine Ev.nxk (guF rfl hb248 (bGtr rfl rfl)) ?_
   refine Ev.nxk (pkF rfl hb248 rfl) ?_
   refine Ev.nxk (mvO rfl) ?_
   rcases ite_some h with ⟨hb261, h⟩ | ⟨hb261, h⟩
   ·refine Ev.nxk (gsF rfl hb261) ?_
    refine Ev.nxk (gsF rfl hb261) ?_
    refine Ev.nxk (gsF rfl hb261) ?_
    refine Ev.nxk (gsF rfl hb261) ?_
    refine Ev.nxk (gsF rfl hb261) ?_
    refine Ev.nxk (gsF rfl hb261) ?_
    refine Ev.nxk (gsU rfl) ?_
    refine Ev.nxk (gsU rfl) ?_
    refine Ev.nxk (gsU rfl) ?_
    refine Ev.nxk (gsF rfl hb261) ?_
    refine Ev.nxk (pkT rfl hb261 rfl) ?_
    refine Ev.rend ?_
    intro e262 he263
    have h264 := envp (t := 1) he263 rfl h186
    have h265 := envp (t := 3) he263 rfl h187
    have h266 := envp (t := 8) he263 rfl h189
    have h267 := envp (t := 42) he263 rfl h190
    have h268 := envp (t := 43) he263 rfl h191
    have h269 := envp (t := 44) he263 rfl h192
    have h270 : eget e262 102 = .bool true := envp he263 rfl rfl
    clear h186 h187 h188 h189 h190 h191 h192
    refine Ev.kseqN ?_
    refine Ev.condT h270 rfl ?_
    refine Ev.seq ?_
    refine Ev.reg (fun _ => rfl) ?_
    refine Ev.nxk (mvO rfl) ?_
    refine Ev.rend ?_
    intro e271 he272
    have h273 : eget e271 2 = .bool false := envp he272 rfl rfl
    clear h264 h265 h266 h267 h268 h269 h270
    refine Ev.kseqN ?_
    refine Ev.ex ?_
    refine Ev.kseqR ?_
    refine Ev.kblkR ?_
    refine Ev.kseqR ?_
    cases h
    exact Ev.kid (bQ_x (RS := (impl_ValidBook_b2_RS a1)) (RR := (impl_ValidBook_b2_RR a1)) (by intro h; cases h) (And.intro rfl h273))
   refine Ev.nxk (guF rfl hb261 (faO h189 o183 rfl)) ?_
   refine Ev.nxk (guF rfl hb261 (ldO rfl o183 rfl rfl rfl)) ?_
   refine Ev.nxk (guF rfl hb261 (faO h189 o183 rfl)) ?_
   refine Ev.nxk (guF rfl hb261 (ldO rfl o183 rfl rfl rfl)) ?_
   refine Ev.nxk (guF rfl hb261 (bEql rfl rfl)) ?_
   refine Ev.nxk (guF rfl hb261 (mvO rfl)) ?_
   rcases ite_some h with ⟨hb274, h⟩ | ⟨hb274, h⟩
   ·refine Ev.nxk (guT rfl hb274 (faO h189 o183 rfl)) ?_
    refine Ev.nxk (guT rfl hb274 (ldO rfl o183 rfl rfl rfl)) ?_
    refine Ev.nxk (guT rfl hb274 (bNeq rfl rfl)) ?_
    refine Ev.nxk (guF rfl hb261 (pkT rfl hb274 rfl)) ?_
    refine Ev.nxk (pkF rfl hb261 rfl) ?_
    refine Ev.rend ?_
    intro e275 he276
    have h277 := envp (t := 1) he276 rfl h186
    have h278 := envp (t := 3) he276 rfl h187
    have h279 := envp (t := 8) he276 rfl h189
    have h280 := envp (t := 42) he276 rfl h190
    have h281 := envp (t := 43) he276 rfl h191
    have h282 := envp (t := 44) he276 rfl h192
    have h283 : eget e275 102 = .bool (x175.Left != 0) := envp he276 rfl rfl
    clear h186 h187 h188 h189 h190 h191 h192
    refine Ev.kseqN ?_
    rcases ite_some h with ⟨hb284, h⟩ | ⟨hb284, h⟩
    ·refine Ev.condT h283 hb284 ?_
     refine Ev.seq ?_
     refine Ev.reg (fun _ => rfl) ?_
     refine Ev.nxk (mvO rfl) ?_
     refine Ev.rend ?_
     intro e285 he286
     have h287 : eget e285 2 = .bool false := envp he286 rfl rfl
     clear h277 h278 h279 h280 h281 h282 h283
     refine Ev.kseqN ?_
     refine Ev.ex ?_
     refine Ev.kseqR ?_
     refine Ev.kblkR ?_
     refine Ev.kseqR ?_
     cases h
     exact Ev.kid (bQ_x (RS := (impl_ValidBook_b2_RS a1)) (RR := (impl_ValidBook_b2_RR a1)) (by intro h; cases h) (And.intro rfl h287))
    refine Ev.condF h283 hb284 ?_
    refine Ev.ex ?_
    refine Ev.kseqN ?_
    refine Ev.reg (fun _ => rfl) ?_
    refine Ev.nxk (faO h279 o183 rfl) ?_
    refine Ev.nxk (ldO rfl o183 rfl rfl rfl) ?_
    refine Ev.nxk (mvO rfl) ?_
    refine Ev.rend ?_
    intro e288 he289
    have h290 := envp (t := 1) he289 rfl h277
    have h291 := envp (t := 3) he289 rfl h278
    have h292 : eget e288 6 = .int .i64 x175.Cut := envp he289 rfl rfl
    have h293 := envp (t := 42) he289 rfl h280
    have h294 := envp (t := 43) he289 rfl h281
    have h295 := envp (t := 44) he289 rfl h282
    clear h277 h278 h279 h280 h281 h282 h283
    refine Ev.kblkN ?_
    refine Ev.kseqN ?_
    refine Ev.reg (fun _ => rfl) ?_
    refine Ev.nxk (bAdd h295 rfl) ?_
    refine Ev.nxk (mvO rfl) ?_
    refine Ev.rend ?_
    intro e296 he297
    have h298 := envp (t := 1) he297 rfl h290
    have h299 := envp (t := 3) he297 rfl h291
    have h300 := envp (t := 6) he297 rfl h292
    have h301 := envp (t := 42) he297 rfl h293
    have h302 := envp (t := 43) he297 rfl h294
    have h303 : eget e296 44 = .int .i64 (IntKind.i64.wrap (s2_2 + 1)) := envp he297 rfl rfl
    clear h290 h291 h292 h293 h294
    cases h
    exact Ev.kid (bQ_n (RS := (impl_ValidBook_b2_RS a1)) (RR := (impl_ValidBook_b2_RR a1)) (And.intro h298 (And.intro h299 (And.intro h300 (And.intro h301 (And.intro h302 h303))))))
   refine Ev.nxk (gsT rfl hb274) ?_
   refine Ev.nxk (gsT rfl hb274) ?_
   refine Ev.nxk (gsT rfl hb274) ?_
   refine Ev.nxk (guF rfl hb261 (pkF rfl hb274 rfl)) ?_
   refine Ev.nxk (pkF rfl hb261 rfl) ?_
   refine Ev.rend ?_
   intro e304 he305
   have h306 := envp (t := 1) he305 rfl h186
   have h307 := envp (t := 3) he305 rfl h187
   have h308 := envp (t := 8) he305 rfl h189
   have h309 := envp (t := 42) he305 rfl h190
   have h310 := envp (t := 43) he305 rfl h191
   have h311 := envp (t := 44) he305 rfl h192
   have h312 : eget e304 102 = .bool false := envp he305 rfl rfl
   clear h186 h187 h188 h189 h190 h191 h192
   refine Ev.kseqN ?_
   refine Ev.condF h312 rfl ?_
   refine Ev.ex ?_
   refine Ev.kseqN ?_
   refine Ev.reg (fun _ => rfl) ?_
   refine Ev.nxk (faO h308 o183 rfl) ?_
   refine Ev.nxk (ldO rfl o183 rfl rfl rfl) ?_
   refine Ev.nxk (mvO rfl) ?_
   refine Ev.rend ?_
   intro e313 he314
   have h315 := envp (t := 1) he314 rfl h306
   have h316 := envp (t := 3) he314 rfl h307
   have h317 : eget e313 6 = .int .i64 x175.Cut := envp he314 rfl rfl
   have h318 := envp (t := 42) he314 rfl h309
   have h319 := envp (t := 43) he314 rfl h310
   have h320 := envp (t := 44) he314 rfl h311
   clear h306 h307 h308 h309 h310 h311 h312
   refine Ev.kblkN ?_
   refine Ev.kseqN ?_
   refine Ev.reg (fun _ => rfl) ?_
   refine Ev.nxk (bAdd h320 rfl) ?_
   refine Ev.nxk (mvO rfl) ?_
   refine Ev.rend ?_
   intro e321 he322
   have h323 := envp (t := 1) he322 rfl h315
   have h324 := envp (t := 3) he322 rfl h316
   have h325 := envp (t := 6) he322 rfl h317
   have h326 := envp (t := 42) he322 rfl h318
   have h327 := envp (t := 43) he322 rfl h319
   have h328 : eget e321 44 = .int .i64 (IntKind.i64.wrap (s2_2 + 1)) := envp he322 rfl rfl
   clear h315 h316 h317 h318 h319
   cases h
   exact Ev.kid (bQ_n (RS := (impl_ValidBook_b2_RS a1)) (RR := (impl_ValidBook_b2_RR a1)) (And.intro h323 (And.intro h324 (And.intro h325 (And.intro h326 (And.intro h327 h328))))))
  refine Ev.nxk (gsF rfl (congrArg Bool.not hb195)) ?_
  refine Ev.nxk (gsF rfl (congrArg Bool.not hb195)) ?_
  refine Ev.nxk (gsF rfl (congrArg Bool.not hb195)) ?_
  refine Ev.nxk (gsF rfl (congrArg Bool.not hb195)) ?_
  refine Ev.nxk (pkT rfl (congrArg Bool.not hb195) rfl) ?_
  refine Ev.nxk (mvO rfl) ?_
  refine Ev.nxk (gsF rfl rfl) ?_
  refine Ev.nxk (gsF rfl rfl) ?_
  refine Ev.nxk (gsF rfl rfl) ?_
  refine Ev.nxk (gsF rfl rfl) ?_
  refine Ev.nxk (gsF rfl rfl) ?_
  refine Ev.nxk (pkT rfl rfl rfl) ?_
  refine Ev.nxk (mvO rfl) ?_
  refine Ev.nxk (gsF rfl rfl) ?_
  refine Ev.nxk (gsF rfl rfl) ?_
  refine Ev.nxk (gsF rfl rfl) ?_
  refine Ev.nxk (pkT rfl rfl rfl) ?_
  refine Ev.nxk (mvO rfl) ?_
  refine Ev.nxk (gsF rfl rfl) ?_
  refine Ev.nxk (gsF rfl rfl) ?_
  refine Ev.nxk (gsF rfl rfl) ?_
  refine Ev.nxk (pkT rfl rfl rfl) ?_
  refine Ev.nxk (mvO rfl) ?_
  refine Ev.nxk (gsF rfl rfl) ?_
  refine Ev.nxk (gsF rfl rfl) ?_
  refine Ev.nxk (gsF rfl rfl) ?_
  refine Ev.nxk (pkT rfl rfl rfl) ?_
  refine Ev.nxk (mvO rfl) ?_
  refine Ev.nxk (gsF rfl rfl) ?_
  refine Ev.nxk (gsF rfl rfl) ?_
  refine Ev.nxk (gsF rfl rfl) ?_
  refine Ev.nxk (gsF rfl rfl) ?_
  refine Ev.nxk (gsF rfl rfl) ?_
  refine Ev.nxk (pkT rfl rfl rfl) ?_
  refine Ev.nxk (mvO rfl) ?_
  refine Ev.nxk (gsF rfl rfl) ?_
  refine Ev.nxk (gsF rfl rfl) ?_
  refine Ev.nxk (gsF rfl rfl) ?_
  refine Ev.nxk (gsF rfl rfl) ?_
  refine Ev.nxk (gsF rfl rfl) ?_
  refine Ev.nxk (gsF rfl rfl) ?_
  refine Ev.nxk (gsU rfl) ?_
  refine Ev.nxk (gsU rfl) ?_
  refine Ev.nxk (gsU rfl) ?_
  refine Ev.nxk (gsF rfl rfl) ?_
  refine Ev.nxk (pkT rfl rfl rfl) ?_
  refine Ev.rend ?_
  intro e329 he330
  have h331 := envp (t := 1) he330 rfl h186
  have h332 := envp (t := 3) he330 rfl h187
  have h333 := envp (t := 8) he330 rfl h189
  have h334 := envp (t := 42) he330 rfl h190
  have h335 := envp (t := 43) he330 rfl h191
  have h336 := envp (t := 44) he330 rfl h192
  have h337 : eget e329 102 = .bool true := envp he330 rfl rfl
  clear h186 h187 h188 h189 h190 h191 h192
  refine Ev.kseqN ?_
  refine Ev.condT h337 rfl ?_
  refine Ev.seq ?_
  refine Ev.reg (fun _ => rfl) ?_
  refine Ev.nxk (mvO rfl) ?_
  refine Ev.rend ?_
  intro e338 he339
  have h340 : eget e338 2 = .bool false := envp he339 rfl rfl
  clear h331 h332 h333 h334 h335 h336 h337
  refine Ev.kseqN ?_
  refine Ev.ex ?_
  refine Ev.kseqR ?_
  refine Ev.kblkR ?_
  refine Ev.kseqR ?_
  cases h
  exact Ev.kid (bQ_x (RS := (impl_ValidBook_b2_RS a1)) (RR := (impl_ValidBook_b2_RR a1)) (by intro h; cases h) (And.intro rfl h340))
 refine Ev.condF h173 hb174 ?_
 refine Ev.ex ?_
 refine Ev.kseqE ?_
 cases h
 exact Ev.kid (bQ_x (RS := (impl_ValidBook_b2_RS a1)) (RR := (impl_ValidBook_b2_RR a1)) (by intro h; cases h) (And.intro rfl trivial))
noncomputable def impl_ValidBook (a1 : Book) : Option Bool :=
 ((impl_isBookDay a1.Day).bind fun r9 =>
 if r9 = true then
  if (decide ((a1.Cash.length : Int) < 1)) = true then
   some true
  else
   if (decide ((a1.Cash.length : Int) > 16)) = true then
    some true
   else
    some (decide ((a1.Tallies.length : Int) > 40))
 else
  some true).bind fun y35 =>
 if y35 = true then
  some false
 else
  (Lw (impl_ValidBook_b1 a1) 0).bind fun r => match r with
  | (.inl _) =>
   some false
  | (.inr _) =>
   (Lw (impl_ValidBook_b2 a1) (0, 0)).bind fun r => match r with
   | (.inl _) =>
    some false
   | (.inr _) =>
    some true
def impl_ValidBook_enc (r : Bool) : AV := .bool r
theorem impl_ValidBook_ok (a1 : Book) (r : Bool) (h : impl_ValidBook a1 = some r) : Ev (fun k => CN k 66 [.agg [.int .i64 a1.Day, .sl none (a1.Cash.map (cI .i64)), .sl none (a1.Tallies.map Tally.c)]] []) (fun p => rRes p.2 p.1 = impl_ValidBook_enc r) := by
 unfold impl_ValidBook at h
 refine Ev.enter (F := fun k => f66 (CN k) k) (fun k => callN_eq rfl Try.func66 rfl rfl rfl (by decide +kernel) (f66_eq _ _)) ?_
 refine Ev.seq ?_
 refine Ev.reg (fun _ => rfl) ?_
 refine Ev.nxk (bxI rfl rfl ⟨rfl, rfl, by decide⟩) ?_
 refine Ev.nxk (mvO rfl) ?_
 refine Ev.rend ?_
 intro e1 he2
 have h3 : eget e1 1 = .pt none [.int .i64 a1.Day, .sl none (a1.Cash.map (cI .i64)), .sl none (a1.Tallies.map Tally.c)] := envp he2 rfl rfl
 refine Ev.kseqN ?_
 refine Ev.seq ?_
 refine Ev.reg (fun _ => rfl) ?_
 refine Ev.nxk (faP h3 ⟨ble rfl, blt rfl⟩ rfl) ?_
 refine Ev.nxk (ldP rfl rfl) ?_
 refine Ev.nxk (lnS Try.underlying47 rfl) ?_
 refine Ev.nxk (mvO rfl) ?_
 refine Ev.rend ?_
 intro e4 he5
 have h6 := envp (t := 1) he5 rfl h3
 have h7 : eget e4 3 = .int .i64 (a1.Cash.length : Int) := envp he5 rfl rfl
 clear h3
 refine Ev.kseqN ?_
 refine Ev.seq ?_
 refine Ev.seq ?_
 obtain ⟨r353, hr354, h⟩ := bind_some h
 refine Ev.cut (Q1 := impl_ValidBook_c1_Q a1 r353) (by
     have h := hr354
     refine Ev.reg (fun _ => rfl) ?_
     refine Ev.nxk (faP h6 ⟨ble rfl, blt rfl⟩ rfl) ?_
     refine Ev.nxk (ldP rfl rfl) ?_
     obtain ⟨r9, hx8, h⟩ := bind_some h
     refine Ev.nxck (Ev.call (v := .bool r9) rfl (cns rfl rfl) rfl (impl_isBookDay_ok a1.Day _ hx8) (fun h => nomatch (show false = true from h))) ?_
     refine Ev.nxk (uNot rfl) ?_
     refine Ev.nxk (mvO rfl) ?_
     rcases ite_some h with ⟨hb10, h⟩ | ⟨hb10, h⟩
     ·refine Ev.nxk (guF rfl (congrArg Bool.not hb10) (mvO h7)) ?_
      refine Ev.nxk (guF rfl (congrArg Bool.not hb10) (bLss rfl rfl)) ?_
      refine Ev.nxk (pkF rfl (congrArg Bool.not hb10) rfl) ?_
      refine Ev.nxk (mvO rfl) ?_
      rcases ite_some h with ⟨hb11, h⟩ | ⟨hb11, h⟩
      ·refine Ev.nxk (gsF rfl hb11) ?_
       refine Ev.nxk (gsF rfl hb11) ?_
       refine Ev.nxk (pkT rfl hb11 rfl) ?_
       refine Ev.nxk (mvO rfl) ?_
       refine Ev.nxk (gsF rfl rfl) ?_
       refine Ev.nxk (gsF rfl rfl) ?_
       refine Ev.nxk (gsF rfl rfl) ?_
       refine Ev.nxk (gsF rfl rfl) ?_
       refine Ev.nxk (pkT rfl rfl rfl) ?_
       refine Ev.rend ?_
       intro e12 he13
       have h14 := envp (t := 1) he13 rfl h6
       have h15 := envp (t := 3) he13 rfl h7
       have h16 : eget e12 29 = .bool true := envp he13 rfl rfl
       clear h6 h7
       cases h
       exact Ev.kid (show impl_ValidBook_c1_Q a1 _ _ from (And.intro rfl (And.intro h14 (And.intro h15 h16))))
      refine Ev.nxk (guF rfl hb11 (mvO h7)) ?_
      refine Ev.nxk (guF rfl hb11 (bGtr rfl rfl)) ?_
      refine Ev.nxk (pkF rfl hb11 rfl) ?_
      refine Ev.nxk (mvO rfl) ?_
      rcases ite_some h with ⟨hb17, h⟩ | ⟨hb17, h⟩
      ·refine Ev.nxk (gsF rfl hb17) ?_
       refine Ev.nxk (gsF rfl hb17) ?_
       refine Ev.nxk (gsF rfl hb17) ?_
       refine Ev.nxk (gsF rfl hb17) ?_
       refine Ev.nxk (pkT rfl hb17 rfl) ?_
       refine Ev.rend ?_
       intro e18 he19
       have h20 := envp (t := 1) he19 rfl h6
       have h21 := envp (t := 3) he19 rfl h7
       have h22 : eget e18 29 = .bool true := envp he19 rfl rfl
       clear h6 h7
       cases h
       exact Ev.kid (show impl_ValidBook_c1_Q a1 _ _ from (And.intro rfl (And.intro h20 (And.intro h21 h22))))
      refine Ev.nxk (guF rfl hb17 (faP h6 ⟨ble rfl, blt rfl⟩ rfl)) ?_
      refine Ev.nxk (guF rfl hb17 (ldP rfl rfl)) ?_
      refine Ev.nxk (guF rfl hb17 (lnS Try.underlying54 rfl)) ?_
      refine Ev.nxk (guF rfl hb17 (bGtr rfl rfl)) ?_
      refine Ev.nxk (pkF rfl hb17 rfl) ?_
      refine Ev.rend ?_
      intro e23 he24
      have h25 := envp (t := 1) he24 rfl h6
      have h26 := envp (t := 3) he24 rfl h7
      have h27 : eget e23 29 = .bool (decide ((a1.Tallies.length : Int) > 40)) := envp he24 rfl rfl
      clear h6 h7
      cases h
      exact Ev.kid (show impl_ValidBook_c1_Q a1 _ _ from (And.intro rfl (And.intro h25 (And.intro h26 h27))))
     refine Ev.nxk (gsF rfl (congrArg Bool.not hb10)) ?_
     refine Ev.nxk (gsF rfl (congrArg Bool.not hb10)) ?_
     refine Ev.nxk (pkT rfl (congrArg Bool.not hb10) rfl) ?_
     refine Ev.nxk (mvO rfl) ?_
     refine Ev.nxk (gsF rfl rfl) ?_
     refine Ev.nxk (gsF rfl rfl) ?_
     refine Ev.nxk (pkT rfl rfl rfl) ?_
     refine Ev.nxk (mvO rfl) ?_
     refine Ev.nxk (gsF rfl rfl) ?_
     refine Ev.nxk (gsF rfl rfl) ?_
     refine Ev.nxk (gsF rfl rfl) ?_
     refine Ev.nxk (gsF rfl rfl) ?_
     refine Ev.nxk (pkT rfl rfl rfl) ?_
     refine Ev.rend ?_
     intro e28 he29
     have h30 := envp (t := 1) he29 rfl h6
     have h31 := envp (t := 3) he29 rfl h7
     have h32 : eget e28 29 = .bool true := envp he29 rfl rfl
     clear h6 h7
     cases h
     exact Ev.kid (show impl_ValidBook_c1_Q a1 _ _ from (And.intro rfl (And.intro h30 (And.intro h31 h32))))) ?_
 revert h hr354
 revert r353
 intro y35 hr354 h
 intro x e33 M34 hq352
 obtain ⟨rfl, h36, h37, h38⟩ := hq352
 refine Ev.kseqN ?_
 rcases ite_some h with ⟨hb39, h⟩ | ⟨hb39, h⟩
 ·refine Ev.condT h38 hb39 ?_
  refine Ev.seq ?_
  refine Ev.reg (fun _ => rfl) ?_
  refine Ev.nxk (mvO rfl) ?_
  refine Ev.rend ?_
  intro e40 he41
  have h42 : eget e40 2 = .bool false := envp he41 rfl rfl
  clear h36 h37 h38
  refine Ev.kseqN ?_
  refine Ev.ex ?_
  refine Ev.kseqR ?_
  cases h
  exact Ev.kendR (resT h42 res0) rfl
 refine Ev.condF h38 hb39 ?_
 refine Ev.ex ?_
 refine Ev.kseqN ?_
 refine Ev.seq ?_
 refine Ev.seq ?_
 refine Ev.reg (fun _ => rfl) ?_
 refine Ev.nxk (faP h36 ⟨ble rfl, blt rfl⟩ rfl) ?_
 refine Ev.nxk (ldP rfl rfl) ?_
 refine Ev.nxk (lnS Try.underlying47 rfl) ?_
 refine Ev.nxk (mvO rfl) ?_
 refine Ev.rend ?_
 intro e43 he44
 have h45 : eget e43 1 = .pt none [.int .i64 a1.Day, .sl none (a1.Cash.map (cI .i64)), .sl none (a1.Tallies.map Tally.c)] := envp he44 rfl h36
 have h46 : eget e43 3 = .int .i64 (a1.Cash.length : Int) := envp he44 rfl h37
 have h47 : eget e43 31 = .sl none (a1.Cash.map (cI .i64)) := envp he44 rfl rfl
 have h48 : eget e43 32 = .int .i64 (a1.Cash.length : Int) := envp he44 rfl rfl
 have h49 : eget e43 33 = .int .i64 0 := envp he44 rfl rfl
 clear h36 h37 h38
 refine Ev.kseqN ?_
 refine Ev.blk ?_
 obtain ⟨r114, hr115, h⟩ := bind_some h
 rcases r114 with _ | _
 ·refine Ev.loop (RS := impl_ValidBook_b1_RS a1) (RR := impl_ValidBook_b1_RR a1) (fun s r h e M hs => impl_ValidBook_b1_ok a1 s r h e M hs) hr115 (And.intro h45 (And.intro h46 (And.intro h47 (And.intro h48 h49)))) ?_
  intro x e117 M118 hq116
  obtain ⟨rfl, h119⟩ := hq116
  refine Ev.kblkR ?_
  refine Ev.kseqR ?_
  cases h
  exact Ev.kendR (resT h119 res0) rfl
 refine Ev.loop (RS := impl_ValidBook_b1_RS a1) (RR := impl_ValidBook_b1_RR a1) (fun s r h e M hs => impl_ValidBook_b1_ok a1 s r h e M hs) hr115 (And.intro h45 (And.intro h46 (And.intro h47 (And.intro h48 h49)))) ?_
 intro x e120 M121 hq116
 obtain ⟨rfl, h122, h123⟩ := hq116
 refine Ev.kblkE ?_
 refine Ev.kseqN ?_
 refine Ev.seq ?_
 refine Ev.reg (fun _ => rfl) ?_
 refine Ev.nxk (mvO rfl) ?_
 refine Ev.rend ?_
 intro e124 he125
 have h126 : eget e124 1 = .pt none [.int .i64 a1.Day, .sl none (a1.Cash.map (cI .i64)), .sl none (a1.Tallies.map Tally.c)] := envp he125 rfl h122
 have h127 : eget e124 3 = .int .i64 (a1.Cash.length : Int) := envp he125 rfl h123
 have h128 : eget e124 6 = .int .i64 0 := envp he125 rfl rfl
 clear h122 h123
 refine Ev.kseqN ?_
 refine Ev.seq ?_
 refine Ev.seq ?_
 refine Ev.reg (fun _ => rfl) ?_
 refine Ev.nxk (faP h126 ⟨ble rfl, blt rfl⟩ rfl) ?_
 refine Ev.nxk (ldP rfl rfl) ?_
 refine Ev.nxk (lnS Try.underlying54 rfl) ?_
 refine Ev.nxk (mvO rfl) ?_
 refine Ev.rend ?_
 intro e129 he130
 have h131 := envp (t := 1) he130 rfl h126
 have h132 := envp (t := 3) he130 rfl h127
 have h133 : eget e129 6 = .int .i64 0 := envp he130 rfl h128
 have h134 : eget e129 42 = .sl none (a1.Tallies.map Tally.c) := envp he130 rfl rfl
 have h135 : eget e129 43 = .int .i64 (a1.Tallies.length : Int) := envp he130 rfl rfl
 have h136 : eget e129 44 = .int .i64 0 := envp he130 rfl rfl
 clear h126 h127 h128
 refine Ev.kseqN ?_
 refine Ev.blk ?_
 obtain ⟨r341, hr342, h⟩ := bind_some h
 rcases r341 with _ | _
 ·refine Ev.loop (RS := impl_ValidBook_b2_RS a1) (RR := impl_ValidBook_b2_RR a1) (fun s r h e M hs => impl_ValidBook_b2_ok a1 s r h e M hs) hr342 (And.intro h131 (And.intro h132 (And.intro h133 (And.intro h134 (And.intro h135 h136))))) ?_
  intro x e344 M345 hq343
  obtain ⟨rfl, h346⟩ := hq343
  refine Ev.kblkR ?_
  refine Ev.kseqR ?_
  cases h
  exact Ev.kendR (resT h346 res0) rfl
 refine Ev.loop (RS := impl_ValidBook_b2_RS a1) (RR := impl_ValidBook_b2_RR a1) (fun s r h e M hs => impl_ValidBook_b2_ok a1 s r h e M hs) hr342 (And.intro h131 (And.intro h132 (And.intro h133 (And.intro h134 (And.intro h135 h136))))) ?_
 intro x e347 M348 hq343
 obtain ⟨rfl, _⟩ := hq343
 refine Ev.kblkE ?_
 refine Ev.kseqN ?_
 refine Ev.seq ?_
 refine Ev.reg (fun _ => rfl) ?_
 refine Ev.nxk (mvO rfl) ?_
 refine Ev.rend ?_
 intro e349 he350
 have h351 : eget e349 2 = .bool true := envp he350 rfl rfl
 refine Ev.kseqN ?_
 refine Ev.ex ?_
 cases h
 exact Ev.kendR (resT h351 res0) rfl
/-! ### loop.example/g01263/laws.toTallyS (f65) -/
abbrev laws_toTallyS_b1_S := Int × (List Tally)
abbrev laws_toTallyS_b1_R := (List Tally)
def laws_toTallyS_b1_RS (a1 : List Tally) (x4 : List Tally) (i1_1 : Nat) (s : laws_toTallyS_b1_S) (e : Env) (M : Mem) : Prop := eget e 0 = .sl none (a1.map Tally.c) ∧ eget e 3 = .lsl i1_1 s.2.length 0 s.2.length ∧ eget e 4 = .int .i64 s.1 ∧ M[i1_1]? = some (.live ⟨.grow, 156, 5, s.2.map Tally.c⟩) ∧ s.2.length = x4.length
def laws_toTallyS_b1_RR (a1 : List Tally) (x4 : List Tally) (i1_1 : Nat) (g : laws_toTallyS_b1_R) (x : Ex) (e : Env) (M : Mem) : Prop := x = .ext 0 ∧ eget e 3 = .lsl i1_1 g.length 0 g.length ∧ M[i1_1]? = some (.live ⟨.grow, 156, 5, g.map Tally.c⟩) ∧ g.length = x4.length
noncomputable def laws_toTallyS_b1 (a1 : List Tally) : laws_toTallyS_b1_S → Option (laws_toTallyS_b1_S ⊕ laws_toTallyS_b1_R) := fun (s1_1, s1_2) =>
 if (decide (s1_1 < (a1.length : Int))) = true then
  (rd a1 s1_1).bind fun x45 =>
  (laws_toTally x45).bind fun (r48, r49, r50, r51, r52) =>
  (rd s1_2 s1_1).bind fun x53 =>
  some (.inl ((IntKind.i64.wrap (s1_1 + 1)), (s1_2.set s1_1.toNat (Tally.mk r48 r49 r50 r51 r52))))
 else
  some (.inr s1_2)
theorem laws_toTallyS_b1_ok (a1 : List Tally) (x4 : List Tally) (i1_1 : Nat) (s : laws_toTallyS_b1_S) (r : laws_toTallyS_b1_S ⊕ laws_toTallyS_b1_R) (h : laws_toTallyS_b1 a1 s = some r) (e : Env) (M : Mem) (hs : laws_toTallyS_b1_RS a1 x4 i1_1 s e M) : Ev (fun k => (f65_l3 (CN k) k (prune [0, 3, 4] e) M).bind fun q => some q) (bQ (laws_toTallyS_b1_RS a1 x4 i1_1) (laws_toTallyS_b1_RR a1 x4 i1_1) r) := by
 obtain ⟨s1_1, s1_2⟩ := s
 unfold laws_toTallyS_b1 at h
 obtain ⟨h30, h32, h34, o36, hl37⟩ := hs
 generalize he29 : prune [0, 3, 4] e = e28
 have h31 := envp he29.symm rfl h30
 have h33 := envp he29.symm rfl h32
 have h35 := envp he29.symm rfl h34
 refine Ev.seq ?_
 refine Ev.seq ?_
 refine Ev.reg (fun _ => rfl) ?_
 refine Ev.nxk (mvO h35) ?_
 refine Ev.nxk (mvO h31) ?_
 refine Ev.nxk (lnS Try.underlying48 rfl) ?_
 refine Ev.nxk (bLss rfl rfl) ?_
 refine Ev.rend ?_
 intro e38 he39
 have h40 : eget e38 0 = .sl none (a1.map Tally.c) := envp he39 rfl h31
 have h41 : eget e38 3 = .lsl i1_1 s1_2.length 0 s1_2.length := envp he39 rfl h33
 have h42 : eget e38 4 = .int .i64 s1_1 := envp he39 rfl h35
 have h43 : eget e38 11 = .bool (decide (s1_1 < (a1.length : Int))) := envp he39 rfl rfl
 clear h31 h33 h35
 refine Ev.kseqN ?_
 rcases ite_some h with ⟨hb44, h⟩ | ⟨hb44, h⟩
 ·refine Ev.condT h43 hb44 ?_
  refine Ev.ex ?_
  refine Ev.kseqN ?_
  refine Ev.seq ?_
  refine Ev.blk ?_
  refine Ev.reg (fun _ => rfl) ?_
  refine Ev.nxk (mvO h41) ?_
  refine Ev.nxk (mvO h42) ?_
  refine Ev.nxk (mvO h40) ?_
  refine Ev.nxk (mvO h42) ?_
  obtain ⟨x45, hx46, h⟩ := bind_some h
  refine Ev.nxk (ixS rfl rfl hx46 Tally.fl) ?_
  refine Ev.nxk (ldPA rfl rfl rfl) ?_
  obtain ⟨⟨r48, r49, r50, r51, r52⟩, hx47, h⟩ := bind_some h
  refine Ev.nxck (Ev.call (v := .agg [.int .i64 r48, .int .i64 r49, .int .i64 r50, .int .i64 r51, .int .i64 r52]) rfl (cns rfl rfl) rfl (laws_toTally_ok x45 _ hx47) (fun h => nomatch (show false = true from h))) ?_
  obtain ⟨x53, hx54, h⟩ := bind_some h
  refine Ev.nxk (ixO rfl o36 rfl rfl (rd_get hx54).1 (rd_lt hx54).2) ?_
  refine Ev.nxput (stR (u := x53) (u' := (Tally.mk r48 r49 r50 r51 r52)) rfl rfl o36 rfl (by rw [Nat.zero_add]; exact (rd_get hx54).2) ⟨rfl, ble rfl⟩ rfl rfl) ?_
  intro M55 hM56
  rw [Nat.zero_add] at hM56
  have o57 : M55[i1_1]? = some (.live ⟨.grow, 156, 5, (s1_2.set s1_1.toNat (Tally.mk r48 r49 r50 r51 r52)).map Tally.c⟩) := set_same hM56 o36
  have hx58 := rd_set (u' := (Tally.mk r48 r49 r50 r51 r52)) hx54
  refine Ev.rend ?_
  intro e59 he60
  have h61 := envp (t := 0) he60 rfl h40
  have h62 := envp (t := 3) he60 rfl h41
  have h63 := envp (t := 4) he60 rfl h42
  clear h40 h41 h42 h43
  refine Ev.kblkN ?_
  refine Ev.kseqN ?_
  refine Ev.reg (fun _ => rfl) ?_
  refine Ev.nxk (mvO h63) ?_
  refine Ev.nxk (bAdd rfl rfl) ?_
  refine Ev.nxk (mvO rfl) ?_
  refine Ev.rend ?_
  intro e64 he65
  have h66 := envp (t := 0) he65 rfl h61
  have h67 := envp (t := 3) he65 rfl h62
  have h68 : eget e64 4 = .int .i64 (IntKind.i64.wrap (s1_1 + 1)) := envp he65 rfl rfl
  clear h61 h62
  cases h
  exact Ev.kid (bQ_n (RS := (laws_toTallyS_b1_RS a1 x4 i1_1)) (RR := (laws_toTallyS_b1_RR a1 x4 i1_1)) (And.intro h66 (And.intro (lslL (L' := (s1_2.set s1_1.toNat (Tally.mk r48 r49 r50 r51 r52)).length) h67 (by simp [hl37])) (And.intro h68 (And.intro o57 (by first | rfl | simp [hl37]))))))
 refine Ev.condF h43 hb44 ?_
 refine Ev.ex ?_
 refine Ev.kseqE ?_
 cases h
 exact Ev.kid (bQ_x (RS := (laws_toTallyS_b1_RS a1 x4 i1_1)) (RR := (laws_toTallyS_b1_RR a1 x4 i1_1)) (by intro h; cases h) (And.intro rfl (And.intro h41 (And.intro o36 (by first | rfl | simp [hl37])))))
noncomputable def laws_toTallyS (a1 : List Tally) : Option ((List Tally)) :=
 (mkS 40 (Tally.mk 0 0 0 0 0) (a1.length : Int)).bind fun x4 =>
 (Lw (laws_toTallyS_b1 a1) (0, x4)).bind fun y74 =>
 some y74
def laws_toTallyS_enc (r : (List Tally)) : AV := .sl (some 156) (r.map Tally.c)
theorem laws_toTallyS_ok (a1 : List Tally) (r : (List Tally)) (h : laws_toTallyS a1 = some r) : Ev (fun k => CN k 65 [.sl none (a1.map Tally.c)] []) (fun p => rRes p.2 p.1 = laws_toTallyS_enc r) := by
 unfold laws_toTallyS at h
 refine Ev.enter (F := fun k => f65 (CN k) k) (fun k => callN_eq rfl Try.func65 rfl rfl rfl (by decide +kernel) (f65_eq _ _)) ?_
 refine Ev.seq ?_
 refine Ev.reg (fun _ => rfl) ?_
 refine Ev.nxk (mvO rfl) ?_
 refine Ev.rend ?_
 intro e1 he2
 have h3 : eget e1 0 = .sl none (a1.map Tally.c) := envp he2 rfl rfl
 refine Ev.kseqN ?_
 refine Ev.seq ?_
 refine Ev.reg (fun _ => rfl) ?_
 refine Ev.nxk (mvO h3) ?_
 refine Ev.nxk (lnS Try.underlying48 rfl) ?_
 obtain ⟨x4, hx5, h⟩ := bind_some h
 refine Ev.nxpush (mkO rfl rfl hx5 (c := Tally.c) zero156 Tally.fl (by decide)) ?_
 intro M7 hM8
 have o9 : M7[([] : Mem).length]? = some (.live ⟨.grow, 156, 5, x4.map Tally.c⟩) := push_new hM8
 refine Ev.nxk (mvO rfl) ?_
 refine Ev.rend ?_
 intro e10 he11
 have h12 := envp (t := 0) he11 rfl h3
 have h13 : eget e10 3 = .lsl ([] : Mem).length x4.length 0 x4.length := envp he11 rfl rfl
 clear h3
 refine Ev.kseqN ?_
 refine Ev.seq ?_
 refine Ev.seq ?_
 refine Ev.reg (fun _ => rfl) ?_
 refine Ev.nxk (mvO rfl) ?_
 refine Ev.rend ?_
 intro e14 he15
 have h16 := envp (t := 0) he15 rfl h12
 have h17 := envp (t := 3) he15 rfl h13
 have h18 : eget e14 4 = .int .i64 0 := envp he15 rfl rfl
 clear h12 h13
 refine Ev.kseqN ?_
 refine Ev.blk ?_
 obtain ⟨y74, hr70, h⟩ := bind_some h
 refine Ev.loop (RS := laws_toTallyS_b1_RS a1 x4 (([] : Mem).length)) (RR := laws_toTallyS_b1_RR a1 x4 (([] : Mem).length)) (fun s r h e M hs => laws_toTallyS_b1_ok a1 x4 (([] : Mem).length) s r h e M hs) hr70 (And.intro h16 (And.intro h17 (And.intro h18 (And.intro o9 rfl)))) ?_
 intro x e72 M73 hq71
 obtain ⟨rfl, h75, o76, hl77⟩ := hq71
 refine Ev.kblkE ?_
 refine Ev.kseqN ?_
 refine Ev.seq ?_
 refine Ev.reg (fun _ => rfl) ?_
 refine Ev.nxk (mvO h75) ?_
 refine Ev.nxk (mvO rfl) ?_
 refine Ev.rend ?_
 intro e78 he79
 have h80 : eget e78 2 = .lsl ([] : Mem).length y74.length 0 y74.length := envp he79 rfl rfl
 clear h75
 refine Ev.kseqN ?_
 refine Ev.ex ?_
 cases h
 exact Ev.kendR (resT h80 res0) (rr_row o76 rfl Tally.fl)
/-! ### loop.example/g01263/laws.toInt64S (f64) -/
abbrev laws_toInt64S_b1_S := Int × (List Int)
abbrev laws_toInt64S_b1_R := (List Int)
def laws_toInt64S_b1_RS (a1 : List Int) (x4 : List Int) (i1_1 : Nat) (s : laws_toInt64S_b1_S) (e : Env) (M : Mem) : Prop := eget e 0 = .sl none (a1.map (cI .i64)) ∧ eget e 3 = .lsl i1_1 s.2.length 0 s.2.length ∧ eget e 4 = .int .i64 s.1 ∧ M[i1_1]? = some (.live ⟨.grow, 2, 1, s.2.map (cI .i64)⟩) ∧ s.2.length = x4.length
def laws_toInt64S_b1_RR (a1 : List Int) (x4 : List Int) (i1_1 : Nat) (g : laws_toInt64S_b1_R) (x : Ex) (e : Env) (M : Mem) : Prop := x = .ext 0 ∧ eget e 3 = .lsl i1_1 g.length 0 g.length ∧ M[i1_1]? = some (.live ⟨.grow, 2, 1, g.map (cI .i64)⟩) ∧ g.length = x4.length
noncomputable def laws_toInt64S_b1 (a1 : List Int) : laws_toInt64S_b1_S → Option (laws_toInt64S_b1_S ⊕ laws_toInt64S_b1_R) := fun (s1_1, s1_2) =>
 if (decide (s1_1 < (a1.length : Int))) = true then
  (rd a1 s1_1).bind fun x45 =>
  (rd s1_2 s1_1).bind fun x47 =>
  some (.inl ((IntKind.i64.wrap (s1_1 + 1)), (s1_2.set s1_1.toNat x45)))
 else
  some (.inr s1_2)
theorem laws_toInt64S_b1_ok (a1 : List Int) (x4 : List Int) (i1_1 : Nat) (s : laws_toInt64S_b1_S) (r : laws_toInt64S_b1_S ⊕ laws_toInt64S_b1_R) (h : laws_toInt64S_b1 a1 s = some r) (e : Env) (M : Mem) (hs : laws_toInt64S_b1_RS a1 x4 i1_1 s e M) : Ev (fun k => (f64_l3 (CN k) k (prune [0, 3, 4] e) M).bind fun q => some q) (bQ (laws_toInt64S_b1_RS a1 x4 i1_1) (laws_toInt64S_b1_RR a1 x4 i1_1) r) := by
 obtain ⟨s1_1, s1_2⟩ := s
 unfold laws_toInt64S_b1 at h
 obtain ⟨h30, h32, h34, o36, hl37⟩ := hs
 generalize he29 : prune [0, 3, 4] e = e28
 have h31 := envp he29.symm rfl h30
 have h33 := envp he29.symm rfl h32
 have h35 := envp he29.symm rfl h34
 refine Ev.seq ?_
 refine Ev.seq ?_
 refine Ev.reg (fun _ => rfl) ?_
 refine Ev.nxk (mvO h35) ?_
 refine Ev.nxk (mvO h31) ?_
 refine Ev.nxk (lnS Try.underlying47 rfl) ?_
 refine Ev.nxk (bLss rfl rfl) ?_
 refine Ev.rend ?_
 intro e38 he39
 have h40 : eget e38 0 = .sl none (a1.map (cI .i64)) := envp he39 rfl h31
 have h41 : eget e38 3 = .lsl i1_1 s1_2.length 0 s1_2.length := envp he39 rfl h33
 have h42 : eget e38 4 = .int .i64 s1_1 := envp he39 rfl h35
 have h43 : eget e38 11 = .bool (decide (s1_1 < (a1.length : Int))) := envp he39 rfl rfl
 clear h31 h33 h35
 refine Ev.kseqN ?_
 rcases ite_some h with ⟨hb44, h⟩ | ⟨hb44, h⟩
 ·refine Ev.condT h43 hb44 ?_
  refine Ev.ex ?_
  refine Ev.kseqN ?_
  refine Ev.seq ?_
  refine Ev.blk ?_
  refine Ev.reg (fun _ => rfl) ?_
  refine Ev.nxk (mvO h41) ?_
  refine Ev.nxk (mvO h42) ?_
  refine Ev.nxk (mvO h40) ?_
  refine Ev.nxk (mvO h42) ?_
  obtain ⟨x45, hx46, h⟩ := bind_some h
  refine Ev.nxk (ixS rfl rfl hx46 (cI_fl _)) ?_
  refine Ev.nxk (ldP rfl rfl) ?_
  obtain ⟨x47, hx48, h⟩ := bind_some h
  refine Ev.nxk (ixO rfl o36 rfl rfl (rd_get hx48).1 (rd_lt hx48).2) ?_
  refine Ev.nxput (stR (u := x47) (u' := x45) rfl rfl o36 rfl (by rw [Nat.zero_add]; exact (rd_get hx48).2) ⟨rfl, ble rfl⟩ rfl rfl) ?_
  intro M49 hM50
  rw [Nat.zero_add] at hM50
  have o51 : M49[i1_1]? = some (.live ⟨.grow, 2, 1, (s1_2.set s1_1.toNat x45).map (cI .i64)⟩) := set_same hM50 o36
  have hx52 := rd_set (u' := x45) hx48
  refine Ev.rend ?_
  intro e53 he54
  have h55 := envp (t := 0) he54 rfl h40
  have h56 := envp (t := 3) he54 rfl h41
  have h57 := envp (t := 4) he54 rfl h42
  clear h40 h41 h42 h43
  refine Ev.kblkN ?_
  refine Ev.kseqN ?_
  refine Ev.reg (fun _ => rfl) ?_
  refine Ev.nxk (mvO h57) ?_
  refine Ev.nxk (bAdd rfl rfl) ?_
  refine Ev.nxk (mvO rfl) ?_
  refine Ev.rend ?_
  intro e58 he59
  have h60 := envp (t := 0) he59 rfl h55
  have h61 := envp (t := 3) he59 rfl h56
  have h62 : eget e58 4 = .int .i64 (IntKind.i64.wrap (s1_1 + 1)) := envp he59 rfl rfl
  clear h55 h56
  cases h
  exact Ev.kid (bQ_n (RS := (laws_toInt64S_b1_RS a1 x4 i1_1)) (RR := (laws_toInt64S_b1_RR a1 x4 i1_1)) (And.intro h60 (And.intro (lslL (L' := (s1_2.set s1_1.toNat x45).length) h61 (by simp [hl37])) (And.intro h62 (And.intro o51 (by first | rfl | simp [hl37]))))))
 refine Ev.condF h43 hb44 ?_
 refine Ev.ex ?_
 refine Ev.kseqE ?_
 cases h
 exact Ev.kid (bQ_x (RS := (laws_toInt64S_b1_RS a1 x4 i1_1)) (RR := (laws_toInt64S_b1_RR a1 x4 i1_1)) (by intro h; cases h) (And.intro rfl (And.intro h41 (And.intro o36 (by first | rfl | simp [hl37])))))
noncomputable def laws_toInt64S (a1 : List Int) : Option ((List Int)) :=
 (mkS 8 0 (a1.length : Int)).bind fun x4 =>
 (Lw (laws_toInt64S_b1 a1) (0, x4)).bind fun y68 =>
 some y68
def laws_toInt64S_enc (r : (List Int)) : AV := .sl (some 2) (r.map (cI .i64))
theorem laws_toInt64S_ok (a1 : List Int) (r : (List Int)) (h : laws_toInt64S a1 = some r) : Ev (fun k => CN k 64 [.sl none (a1.map (cI .i64))] []) (fun p => rRes p.2 p.1 = laws_toInt64S_enc r) := by
 unfold laws_toInt64S at h
 refine Ev.enter (F := fun k => f64 (CN k) k) (fun k => callN_eq rfl Try.func64 rfl rfl rfl (by decide +kernel) (f64_eq _ _)) ?_
 refine Ev.seq ?_
 refine Ev.reg (fun _ => rfl) ?_
 refine Ev.nxk (mvO rfl) ?_
 refine Ev.rend ?_
 intro e1 he2
 have h3 : eget e1 0 = .sl none (a1.map (cI .i64)) := envp he2 rfl rfl
 refine Ev.kseqN ?_
 refine Ev.seq ?_
 refine Ev.reg (fun _ => rfl) ?_
 refine Ev.nxk (mvO h3) ?_
 refine Ev.nxk (lnS Try.underlying47 rfl) ?_
 obtain ⟨x4, hx5, h⟩ := bind_some h
 refine Ev.nxpush (mkO rfl rfl hx5 (c := (cI .i64)) zero2 (cI_fl _) (by decide)) ?_
 intro M7 hM8
 have o9 : M7[([] : Mem).length]? = some (.live ⟨.grow, 2, 1, x4.map (cI .i64)⟩) := push_new hM8
 refine Ev.nxk (mvO rfl) ?_
 refine Ev.rend ?_
 intro e10 he11
 have h12 := envp (t := 0) he11 rfl h3
 have h13 : eget e10 3 = .lsl ([] : Mem).length x4.length 0 x4.length := envp he11 rfl rfl
 clear h3
 refine Ev.kseqN ?_
 refine Ev.seq ?_
 refine Ev.seq ?_
 refine Ev.reg (fun _ => rfl) ?_
 refine Ev.nxk (mvO rfl) ?_
 refine Ev.rend ?_
 intro e14 he15
 have h16 := envp (t := 0) he15 rfl h12
 have h17 := envp (t := 3) he15 rfl h13
 have h18 : eget e14 4 = .int .i64 0 := envp he15 rfl rfl
 clear h12 h13
 refine Ev.kseqN ?_
 refine Ev.blk ?_
 obtain ⟨y68, hr64, h⟩ := bind_some h
 refine Ev.loop (RS := laws_toInt64S_b1_RS a1 x4 (([] : Mem).length)) (RR := laws_toInt64S_b1_RR a1 x4 (([] : Mem).length)) (fun s r h e M hs => laws_toInt64S_b1_ok a1 x4 (([] : Mem).length) s r h e M hs) hr64 (And.intro h16 (And.intro h17 (And.intro h18 (And.intro o9 rfl)))) ?_
 intro x e66 M67 hq65
 obtain ⟨rfl, h69, o70, hl71⟩ := hq65
 refine Ev.kblkE ?_
 refine Ev.kseqN ?_
 refine Ev.seq ?_
 refine Ev.reg (fun _ => rfl) ?_
 refine Ev.nxk (mvO h69) ?_
 refine Ev.nxk (mvO rfl) ?_
 refine Ev.rend ?_
 intro e72 he73
 have h74 : eget e72 2 = .lsl ([] : Mem).length y68.length 0 y68.length := envp he73 rfl rfl
 clear h69
 refine Ev.kseqN ?_
 refine Ev.ex ?_
 cases h
 exact Ev.kendR (resT h74 res0) (rr_row o70 rfl (cI_fl _))
/-! ### loop.example/g01263/spec.l07Do (f63) -/
noncomputable def spec_l07Do (a1 : Book) (a2 : Deal) : Option (Int ⊕ (Int × (List Int) × (List Tally))) :=
 (spec_l07Refused a1 a2).bind fun r11 =>
 if (r11 != 0) = true then
  some (.inl r11)
 else
  (spec_l07Copy a1).bind fun (r34, r35, r36) =>
  if (a2.Kind == 1) = true then
   (app 40 r36 [(Tally.mk a2.From a2.To a2.Day a2.Amount a2.Amount)]).bind fun x86 =>
   some (.inr (a2.Day, r35, x86))
  else
   (rd r36 a2.Tally).bind fun x114 =>
   if (a2.Kind == 2) = true then
    if (((Tally.mk x114.Debtor a2.To x114.Cut x114.Amount x114.Left)).Holder == ((Tally.mk x114.Debtor a2.To x114.Cut x114.Amount x114.Left)).Debtor) = true then
     some (.inr (a2.Day, r35, ((r36.set a2.Tally.toNat (Tally.mk x114.Debtor a2.To x114.Cut x114.Amount x114.Left)).set a2.Tally.toNat (Tally.mk ((Tally.mk x114.Debtor a2.To x114.Cut x114.Amount x114.Left)).Debtor ((Tally.mk x114.Debtor a2.To x114.Cut x114.Amount x114.Left)).Holder ((Tally.mk x114.Debtor a2.To x114.Cut x114.Amount x114.Left)).Cut ((Tally.mk x114.Debtor a2.To x114.Cut x114.Amount x114.Left)).Amount 0))))
    else
     some (.inr (a2.Day, r35, (r36.set a2.Tally.toNat (Tally.mk x114.Debtor a2.To x114.Cut x114.Amount x114.Left))))
   else
    if (a2.Kind == 3) = true then
     (rd r35 x114.Debtor).bind fun x197 =>
     (rd r35 x114.Debtor).bind fun x199 =>
     (rd (r35.set x114.Debtor.toNat (IntKind.i64.wrap (x197 - a2.Amount))) x114.Holder).bind fun x214 =>
     (rd (r35.set x114.Debtor.toNat (IntKind.i64.wrap (x197 - a2.Amount))) x114.Holder).bind fun x216 =>
     some (.inr (a2.Day, ((r35.set x114.Debtor.toNat (IntKind.i64.wrap (x197 - a2.Amount))).set x114.Holder.toNat (IntKind.i64.wrap (x214 + a2.Amount))), (r36.set a2.Tally.toNat (Tally.mk x114.Debtor x114.Holder x114.Cut x114.Amount (IntKind.i64.wrap (x114.Left - a2.Amount))))))
    else
     if (a2.Kind == 4) = true then
      some (.inr (a2.Day, r35, (r36.set a2.Tally.toNat (Tally.mk x114.Debtor x114.Holder x114.Cut x114.Amount 0))))
     else
      some (.inr (a2.Day, r35, r36))
def spec_l07Do_enc (r : Int ⊕ (Int × (List Int) × (List Tally))) : AV :=
  match r with
  | (.inl g) => .tup [.agg [.int .i64 0, .nils, .nils], .int .i64 g]
  | (.inr g) => .tup [.agg [.int .i64 g.1, .sl (some 2) (g.2.1.map (cI .i64)), .sl (some 156) (g.2.2.map Tally.c)], .int .i64 0]
theorem spec_l07Do_ok (a1 : Book) (a2 : Deal) (r : Int ⊕ (Int × (List Int) × (List Tally))) (h : spec_l07Do a1 a2 = some r) : Ev (fun k => CN k 63 [.pt none [.int .i64 a1.Day, .sl none (a1.Cash.map (cI .i64)), .sl none (a1.Tallies.map Tally.c)], .pt none [.int .i64 a2.Day, .int .i8 a2.Kind, .int .i64 a2.Tally, .int .i64 a2.From, .int .i64 a2.To, .int .i64 a2.Amount]] []) (fun p => rRes p.2 p.1 = spec_l07Do_enc r) := by
 unfold spec_l07Do at h
 refine Ev.enter (F := fun k => f63 (CN k) k) (fun k => callN_eq rfl Try.func63 rfl rfl rfl (by decide +kernel) (f63_eq _ _)) ?_
 refine Ev.seq ?_
 refine Ev.reg (fun _ => rfl) ?_
 refine Ev.nxpush (alO zero56) ?_
 intro M2 hM3
 have o4 : M2[([] : Mem).length]? = some (.live ⟨.box, 56, 3, [[.int .i64 0, .nils, .nils]]⟩) := push_new hM3
 refine Ev.nxk (mvO rfl) ?_
 refine Ev.rend ?_
 intro e5 he6
 have h7 : eget e5 0 = .pt none [.int .i64 a1.Day, .sl none (a1.Cash.map (cI .i64)), .sl none (a1.Tallies.map Tally.c)] := envp he6 rfl rfl
 have h8 : eget e5 1 = .pt none [.int .i64 a2.Day, .int .i8 a2.Kind, .int .i64 a2.Tally, .int .i64 a2.From, .int .i64 a2.To, .int .i64 a2.Amount] := envp he6 rfl rfl
 have h9 : eget e5 4 = .loc ([] : Mem).length 1 0 0 := envp he6 rfl rfl
 refine Ev.kseqN ?_
 refine Ev.seq ?_
 refine Ev.seq ?_
 refine Ev.reg (fun _ => rfl) ?_
 refine Ev.nxk (mvO h7) ?_
 refine Ev.nxk (mvO h8) ?_
 obtain ⟨r11, hx10, h⟩ := bind_some h
 refine Ev.nxck (Ev.call (v := .int .i64 r11) rfl (cns rfl (cns rfl rfl)) rfl (spec_l07Refused_ok a1 a2 _ hx10) (fun h => nomatch (show false = true from h))) ?_
 refine Ev.nxk (mvO rfl) ?_
 refine Ev.rend ?_
 intro e12 he13
 have h14 := envp (t := 0) he13 rfl h7
 have h15 := envp (t := 1) he13 rfl h8
 have h16 := envp (t := 4) he13 rfl h9
 have h17 : eget e12 6 = .int .i64 r11 := envp he13 rfl rfl
 clear h7 h8 h9
 refine Ev.kseqN ?_
 refine Ev.seq ?_
 refine Ev.reg (fun _ => rfl) ?_
 refine Ev.nxk (mvO h17) ?_
 refine Ev.nxk (bNeq rfl rfl) ?_
 refine Ev.rend ?_
 intro e18 he19
 have h20 := envp (t := 0) he19 rfl h14
 have h21 := envp (t := 1) he19 rfl h15
 have h22 := envp (t := 4) he19 rfl h16
 have h23 := envp (t := 6) he19 rfl h17
 have h24 : eget e18 13 = .bool (r11 != 0) := envp he19 rfl rfl
 clear h14 h15 h16 h17
 refine Ev.kseqN ?_
 rcases ite_some h with ⟨hb25, h⟩ | ⟨hb25, h⟩
 ·refine Ev.condT h24 hb25 ?_
  refine Ev.seq ?_
  refine Ev.reg (fun _ => rfl) ?_
  refine Ev.nxk (bldT zero56 rfl (fill0 rfl)) ?_
  refine Ev.nxk (mvO h23) ?_
  refine Ev.nxput (stO h22 rfl o4 rfl rfl ⟨rfl, ble rfl⟩ rfl rfl) ?_
  intro M26 hM27
  have o28 : M26[([] : Mem).length]? = some (.live ⟨.box, 56, 3, [[.int .i64 0, .nils, .nils]]⟩) := set_same hM27 o4
  refine Ev.nxk (mvO rfl) ?_
  refine Ev.rend ?_
  intro e29 he30
  have h31 := envp (t := 4) he30 rfl h22
  have h32 : eget e29 5 = .int .i64 r11 := envp he30 rfl rfl
  clear h20 h21 h22 h23 h24
  refine Ev.kseqN ?_
  refine Ev.ex ?_
  refine Ev.kseqR ?_
  cases h
  exact Ev.kendR (resC (ag := true) (sz := 3) ⟨by kernel_rfl, by kernel_rfl, by kernel_rfl⟩ (ldOA h31 o28 rfl rfl (ble rfl) rfl) (resT h32 res0)) rfl
 refine Ev.condF h24 hb25 ?_
 refine Ev.ex ?_
 refine Ev.kseqN ?_
 refine Ev.seq ?_
 refine Ev.reg (fun _ => rfl) ?_
 refine Ev.nxk (mvO h20) ?_
 obtain ⟨⟨r34, r35, r36⟩, hx33, h⟩ := bind_some h
 refine Ev.nxcp (Ev.callT (v := .agg [.int .i64 r34, .sl (some 2) (r35.map (cI .i64)), .sl (some 156) (r36.map Tally.c)]) rfl (cns rfl rfl) rfl (spec_l07Copy_ok a1 _ hx33) (th_gen (v' := .agg [.int .i64 r34, .lsl M2.length r35.length 0 r35.length, .lsl (M2.length + 1) r36.length 0 r36.length]) (l := [⟨.grow, 2, 1, r35.map (cI .i64)⟩, ⟨.grow, 156, 5, r36.map Tally.c⟩]) (own_agg (oa1 rfl (oa1 (own1_row' (c := (cI .i64)) (fun _ => rfl)) (oa1 (own1_row' (c := Tally.c) Tally.flF) oa0)))) (by simp [thaw, thaw2, thaw1, thawL, co2, co156]) rfl rfl)) ?_
 intro M39 hM40
 have o41 := push_old hM40 o4
 have ne42 : ([] : Mem).length ≠ M2.length := by have := lt_of_get (M := M2) o4; omega
 have o43 : M39[M2.length]? = some (.live ⟨.grow, 2, 1, r35.map (cI .i64)⟩) := push_at hM40 0 rfl
 have ne44 : ([] : Mem).length ≠ (M2.length + 1) := by have := lt_of_get (M := M2) o4; omega
 have ne45 : M2.length ≠ (M2.length + 1) := by omega
 have o46 : M39[(M2.length + 1)]? = some (.live ⟨.grow, 156, 5, r36.map Tally.c⟩) := push_at hM40 1 rfl
 refine Ev.nxpush (alO zero56) ?_
 intro M48 hM49
 have o50 := push_old hM49 o41
 have ne51 := ne_new o41
 have o52 := push_old hM49 o43
 have ne53 := ne_new o43
 have o54 := push_old hM49 o46
 have ne55 := ne_new o46
 have o56 : M48[M39.length]? = some (.live ⟨.box, 56, 3, [[.int .i64 0, .nils, .nils]]⟩) := push_new hM49
 refine Ev.nxput (stO rfl rfl o56 rfl rfl ⟨rfl, ble rfl⟩ (all1 rfl (all1 (okL o52 (by simp)) (all1 (okL o54 (by simp)) all0))) rfl) ?_
 intro M57 hM58
 have o59 := set_ne hM58 ne51 o50
 have o60 := set_ne hM58 ne53 o52
 have o61 := set_ne hM58 ne55 o54
 have o62 : M57[M39.length]? = some (.live ⟨.box, 56, 3, [[.int .i64 r34, .lsl M2.length r35.length 0 r35.length, .lsl (M2.length + 1) r36.length 0 r36.length]]⟩) := set_same hM58 o56
 refine Ev.rend ?_
 intro e63 he64
 have h65 := envp (t := 1) he64 rfl h21
 have h66 := envp (t := 4) he64 rfl h22
 have h67 : eget e63 7 = .loc M39.length 1 0 0 := envp he64 rfl rfl
 clear h20 h21 h22 h23 h24
 refine Ev.kseqN ?_
 refine Ev.seq ?_
 refine Ev.reg (fun _ => rfl) ?_
 refine Ev.nxk (mvO h65) ?_
 refine Ev.nxk (ncP rfl) ?_
 refine Ev.nxk (faP rfl ⟨ble rfl, blt rfl⟩ rfl) ?_
 refine Ev.nxk (ldP rfl rfl) ?_
 refine Ev.nxk (faO h67 o62 rfl) ?_
 refine Ev.nxput (stO rfl rfl o62 rfl rfl ⟨rfl, ble rfl⟩ rfl rfl) ?_
 intro M68 hM69
 have o70 := set_ne hM69 ne51 o59
 have o71 := set_ne hM69 ne53 o60
 have o72 := set_ne hM69 ne55 o61
 have o73 : M68[M39.length]? = some (.live ⟨.box, 56, 3, [[.int .i64 a2.Day, .lsl M2.length r35.length 0 r35.length, .lsl (M2.length + 1) r36.length 0 r36.length]]⟩) := set_same hM69 o62
 refine Ev.rend ?_
 intro e74 he75
 have h76 := envp (t := 1) he75 rfl h65
 have h77 := envp (t := 4) he75 rfl h66
 have h78 := envp (t := 7) he75 rfl h67
 clear h65 h66 h67
 refine Ev.kseqN ?_
 refine Ev.seq ?_
 refine Ev.seq ?_
 refine Ev.reg (fun _ => rfl) ?_
 refine Ev.nxk (mvO h76) ?_
 refine Ev.nxk (ncP rfl) ?_
 refine Ev.nxk (faP rfl ⟨ble rfl, blt rfl⟩ rfl) ?_
 refine Ev.nxk (ldP rfl rfl) ?_
 refine Ev.nxk (bEql rfl rfl) ?_
 refine Ev.rend ?_
 intro e79 he80
 have h81 := envp (t := 1) he80 rfl h76
 have h82 := envp (t := 4) he80 rfl h77
 have h83 := envp (t := 7) he80 rfl h78
 have h84 : eget e79 27 = .bool (a2.Kind == 1) := envp he80 rfl rfl
 clear h76 h77 h78
 refine Ev.kseqN ?_
 rcases ite_some h with ⟨hb85, h⟩ | ⟨hb85, h⟩
 ·refine Ev.condT h84 hb85 ?_
  refine Ev.seq ?_
  refine Ev.regD (fun _ => rfl) ?_
  refine Ev.nfk (faO h83 o73 rfl) ?_
  refine Ev.nfk (ldO rfl o73 rfl rfl rfl) ?_
  refine Ev.nfk (mvO h81) ?_
  refine Ev.nfk (ncP rfl) ?_
  refine Ev.nfk (faP rfl ⟨ble rfl, blt rfl⟩ rfl) ?_
  refine Ev.nfk (ldP rfl rfl) ?_
  refine Ev.nfk (mvO h81) ?_
  refine Ev.nfk (ncP rfl) ?_
  refine Ev.nfk (faP rfl ⟨ble rfl, blt rfl⟩ rfl) ?_
  refine Ev.nfk (ldP rfl rfl) ?_
  refine Ev.nfk (mvO h81) ?_
  refine Ev.nfk (ncP rfl) ?_
  refine Ev.nfk (faP rfl ⟨ble rfl, blt rfl⟩ rfl) ?_
  refine Ev.nfk (ldP rfl rfl) ?_
  refine Ev.nfk (mvO h81) ?_
  refine Ev.nfk (ncP rfl) ?_
  refine Ev.nfk (faP rfl ⟨ble rfl, blt rfl⟩ rfl) ?_
  refine Ev.nfk (ldP rfl rfl) ?_
  refine Ev.nfk (mvO h81) ?_
  refine Ev.nfk (ncP rfl) ?_
  refine Ev.nfk (faP rfl ⟨ble rfl, blt rfl⟩ rfl) ?_
  refine Ev.nfk (ldP rfl rfl) ?_
  refine Ev.nfk (bldT zero156 (cns (pr3 rfl) (cns (pr3 rfl) (cns (pr3 rfl) (cns (pr3 rfl) (cns (pr3 rfl) rfl))))) (fill1 ⟨rfl, ble rfl⟩ rfl rfl (fill1 ⟨rfl, ble rfl⟩ rfl rfl (fill1 ⟨rfl, ble rfl⟩ rfl rfl (fill1 ⟨rfl, ble rfl⟩ rfl rfl (fill1 ⟨rfl, ble rfl⟩ rfl rfl (fill0 rfl))))))) ?_
  refine Ev.nfk (litI (cns rfl rfl) rfl ⟨rfl, by decide⟩) ?_
  refine Ev.fend0 ?_
  obtain ⟨x86, hx87, h⟩ := bind_some h
  refine Ev.nxput (apO rfl o72 rfl (elT (c := Tally.c) (xs := [(Tally.mk a2.From a2.To a2.Day a2.Amount a2.Amount)]) rfl) hx87 Tally.fl (by decide)) ?_
  intro M88 hM89
  have o90 := set_ne hM89 ne44 o70
  have o91 := set_ne hM89 ne45 o71
  have o92 : M88[(M2.length + 1)]? = some (.live ⟨.grow, 156, 5, x86.map Tally.c⟩) := set_same hM89 o72
  have o93 := set_ne hM89 (Ne.symm ne55) o73
  refine Ev.nxk (faO h83 o93 rfl) ?_
  refine Ev.nxput (stO rfl rfl o93 rfl rfl ⟨rfl, ble rfl⟩ (all1 (okL o92 (by simp)) all0) rfl) ?_
  intro M94 hM95
  have o96 := set_ne hM95 ne51 o90
  have o97 := set_ne hM95 ne53 o91
  have o98 := set_ne hM95 ne55 o92
  have o99 : M94[M39.length]? = some (.live ⟨.box, 56, 3, [[.int .i64 a2.Day, .lsl M2.length r35.length 0 r35.length, .lsl (M2.length + 1) x86.length 0 x86.length]]⟩) := set_same hM95 o93
  refine Ev.rend ?_
  intro e100 he101
  have h102 := envp (t := 4) he101 rfl h82
  have h103 := envp (t := 7) he101 rfl h83
  clear h81 h82 h83 h84
  refine Ev.kseqN ?_
  refine Ev.seq ?_
  refine Ev.reg (fun _ => rfl) ?_
  refine Ev.nxk (ldOA h103 o99 rfl rfl (ble rfl) rfl) ?_
  refine Ev.nxput (stO h102 rfl o96 rfl rfl ⟨rfl, ble rfl⟩ (all1 rfl (all1 (okL o97 (by simp)) (all1 (okL o98 (by simp)) all0))) rfl) ?_
  intro M104 hM105
  have o106 : M104[([] : Mem).length]? = some (.live ⟨.box, 56, 3, [[.int .i64 a2.Day, .lsl M2.length r35.length 0 r35.length, .lsl (M2.length + 1) x86.length 0 x86.length]]⟩) := set_same hM105 o96
  have o107 := set_ne hM105 (Ne.symm ne42) o97
  have o108 := set_ne hM105 (Ne.symm ne44) o98
  have o109 := set_ne hM105 (Ne.symm ne51) o99
  refine Ev.nxk (mvO rfl) ?_
  refine Ev.rend ?_
  intro e110 he111
  have h112 := envp (t := 4) he111 rfl h102
  have h113 : eget e110 5 = .int .i64 0 := envp he111 rfl rfl
  clear h102 h103
  refine Ev.kseqN ?_
  refine Ev.ex ?_
  refine Ev.kseqR ?_
  cases h
  exact Ev.kendR (resC (ag := true) (sz := 3) ⟨by kernel_rfl, by kernel_rfl, by kernel_rfl⟩ (ldOA h112 o106 rfl rfl (ble rfl) rfl) (resT h113 res0)) (rr_tup (mp1 (rr_agg (mp1 rfl (mp1 (rr_row o107 rfl (cI_fl _)) (mp1 (rr_row o108 rfl Tally.fl) mp0)))) (mp1 rfl mp0)))
 refine Ev.condF h84 hb85 ?_
 refine Ev.ex ?_
 refine Ev.kseqN ?_
 refine Ev.seq ?_
 refine Ev.regD (fun _ => rfl) ?_
 refine Ev.nfk (faO h83 o73 rfl) ?_
 refine Ev.nfk (ldO rfl o73 rfl rfl rfl) ?_
 refine Ev.nfk (mvO h81) ?_
 refine Ev.nfk (ncP rfl) ?_
 refine Ev.nfk (faP rfl ⟨ble rfl, blt rfl⟩ rfl) ?_
 refine Ev.nfk (ldP rfl rfl) ?_
 obtain ⟨x114, hx115, h⟩ := bind_some h
 refine Ev.nfk (ixO rfl o72 rfl rfl (rd_get hx115).1 (rd_lt hx115).2) ?_
 refine Ev.nfk (mvO rfl) ?_
 refine Ev.fend0 ?_
 refine Ev.rend ?_
 intro e116 he117
 have h118 := envp (t := 1) he117 rfl h81
 have h119 := envp (t := 4) he117 rfl h82
 have h120 := envp (t := 7) he117 rfl h83
 have h121 : eget e116 8 = .loc (M2.length + 1) r36.length (0 + a2.Tally.toNat) 0 := envp he117 rfl rfl
 clear h81 h82 h83 h84
 refine Ev.kseqN ?_
 refine Ev.seq ?_
 refine Ev.seq ?_
 refine Ev.reg (fun _ => rfl) ?_
 refine Ev.nxk (mvO h118) ?_
 refine Ev.nxk (ncP rfl) ?_
 refine Ev.nxk (faP rfl ⟨ble rfl, blt rfl⟩ rfl) ?_
 refine Ev.nxk (ldP rfl rfl) ?_
 refine Ev.rend ?_
 intro e122 he123
 have h124 := envp (t := 1) he123 rfl h118
 have h125 := envp (t := 4) he123 rfl h119
 have h126 := envp (t := 7) he123 rfl h120
 have h127 := envp (t := 8) he123 rfl h121
 have h128 : eget e122 65 = .int .i8 a2.Kind := envp he123 rfl rfl
 clear h118 h119 h120 h121
 refine Ev.kseqN ?_
 refine Ev.blk ?_
 refine Ev.seq ?_
 refine Ev.reg (fun _ => rfl) ?_
 refine Ev.nxk (bEql h128 rfl) ?_
 refine Ev.nxk (mvO rfl) ?_
 refine Ev.rend ?_
 intro e129 he130
 have h131 := envp (t := 1) he130 rfl h124
 have h132 := envp (t := 4) he130 rfl h125
 have h133 := envp (t := 7) he130 rfl h126
 have h134 := envp (t := 8) he130 rfl h127
 have h135 := envp (t := 65) he130 rfl h128
 have h136 : eget e129 66 = .bool (a2.Kind == 2) := envp he130 rfl rfl
 clear h124 h125 h126 h127 h128
 refine Ev.kseqN ?_
 rcases ite_some h with ⟨hb137, h⟩ | ⟨hb137, h⟩
 ·refine Ev.condT h136 hb137 ?_
  refine Ev.seq ?_
  refine Ev.reg (fun _ => rfl) ?_
  refine Ev.nxk (mvO h134) ?_
  refine Ev.nxk (mvO h131) ?_
  refine Ev.nxk (ncP rfl) ?_
  refine Ev.nxk (faP rfl ⟨ble rfl, blt rfl⟩ rfl) ?_
  refine Ev.nxk (ldP rfl rfl) ?_
  refine Ev.nxk (ncO rfl o72 (by simp)) ?_
  refine Ev.nxk (faO rfl o72 (by simp)) ?_
  refine Ev.nxput (stR (u := x114) (u' := (Tally.mk x114.Debtor a2.To x114.Cut x114.Amount x114.Left)) rfl rfl o72 rfl (by rw [Nat.zero_add]; exact (rd_get hx115).2) ⟨rfl, ble rfl⟩ rfl rfl) ?_
  intro M138 hM139
  rw [Nat.zero_add] at hM139
  have o140 := set_ne hM139 ne44 o70
  have o141 := set_ne hM139 ne45 o71
  have o142 : M138[(M2.length + 1)]? = some (.live ⟨.grow, 156, 5, (r36.set a2.Tally.toNat (Tally.mk x114.Debtor a2.To x114.Cut x114.Amount x114.Left)).map Tally.c⟩) := set_same hM139 o72
  have o143 := set_ne hM139 (Ne.symm ne55) o73
  have hx144 := rd_set (u' := (Tally.mk x114.Debtor a2.To x114.Cut x114.Amount x114.Left)) hx115
  refine Ev.rend ?_
  intro e145 he146
  have h147 := envp (t := 4) he146 rfl h132
  have h148 := envp (t := 7) he146 rfl h133
  have h149 := envp (t := 8) he146 rfl h134
  clear h131 h132 h133 h134 h135 h136
  refine Ev.kseqN ?_
  refine Ev.seq ?_
  refine Ev.regD (fun _ => rfl) ?_
  refine Ev.nfk (mvO h149) ?_
  refine Ev.nfk (ncO rfl o142 (by simp)) ?_
  refine Ev.nfk (faO rfl o142 (by simp)) ?_
  refine Ev.nfk (ldO rfl o142 (by simp) (by rw [Nat.zero_add]; exact mapg (rd_get hx144).2) rfl) ?_
  refine Ev.nfk (mvO h149) ?_
  refine Ev.nfk (ncO rfl o142 (by simp)) ?_
  refine Ev.nfk (faO rfl o142 (by simp)) ?_
  refine Ev.nfk (ldO rfl o142 (by simp) (by rw [Nat.zero_add]; exact mapg (rd_get hx144).2) rfl) ?_
  refine Ev.nfk (bEql rfl rfl) ?_
  refine Ev.fend0 ?_
  refine Ev.rend ?_
  intro e150 he151
  have h152 := envp (t := 4) he151 rfl h147
  have h153 := envp (t := 7) he151 rfl h148
  have h154 := envp (t := 8) he151 rfl h149
  have h155 : eget e150 83 = .bool (((Tally.mk x114.Debtor a2.To x114.Cut x114.Amount x114.Left)).Holder == ((Tally.mk x114.Debtor a2.To x114.Cut x114.Amount x114.Left)).Debtor) := envp he151 rfl rfl
  clear h147 h148 h149
  refine Ev.kseqN ?_
  rcases ite_some h with ⟨hb156, h⟩ | ⟨hb156, h⟩
  ·refine Ev.condT h155 hb156 ?_
   refine Ev.reg (fun _ => rfl) ?_
   refine Ev.nxk (mvO h154) ?_
   refine Ev.nxk (ncO rfl o142 (by simp)) ?_
   refine Ev.nxk (faO rfl o142 (by simp)) ?_
   refine Ev.nxput (stR (u := (Tally.mk x114.Debtor a2.To x114.Cut x114.Amount x114.Left)) (u' := (Tally.mk ((Tally.mk x114.Debtor a2.To x114.Cut x114.Amount x114.Left)).Debtor ((Tally.mk x114.Debtor a2.To x114.Cut x114.Amount x114.Left)).Holder ((Tally.mk x114.Debtor a2.To x114.Cut x114.Amount x114.Left)).Cut ((Tally.mk x114.Debtor a2.To x114.Cut x114.Amount x114.Left)).Amount 0)) rfl rfl o142 (by simp) (by rw [Nat.zero_add]; exact (rd_get hx144).2) ⟨rfl, ble rfl⟩ rfl rfl) ?_
   intro M157 hM158
   rw [Nat.zero_add] at hM158
   have o159 := set_ne hM158 ne44 o140
   have o160 := set_ne hM158 ne45 o141
   have o161 : M157[(M2.length + 1)]? = some (.live ⟨.grow, 156, 5, ((r36.set a2.Tally.toNat (Tally.mk x114.Debtor a2.To x114.Cut x114.Amount x114.Left)).set a2.Tally.toNat (Tally.mk ((Tally.mk x114.Debtor a2.To x114.Cut x114.Amount x114.Left)).Debtor ((Tally.mk x114.Debtor a2.To x114.Cut x114.Amount x114.Left)).Holder ((Tally.mk x114.Debtor a2.To x114.Cut x114.Amount x114.Left)).Cut ((Tally.mk x114.Debtor a2.To x114.Cut x114.Amount x114.Left)).Amount 0)).map Tally.c⟩) := set_same hM158 o142
   have o162 := set_ne hM158 (Ne.symm ne55) o143
   have hx163 := rd_set (u' := (Tally.mk ((Tally.mk x114.Debtor a2.To x114.Cut x114.Amount x114.Left)).Debtor ((Tally.mk x114.Debtor a2.To x114.Cut x114.Amount x114.Left)).Holder ((Tally.mk x114.Debtor a2.To x114.Cut x114.Amount x114.Left)).Cut ((Tally.mk x114.Debtor a2.To x114.Cut x114.Amount x114.Left)).Amount 0)) hx144
   refine Ev.rend ?_
   intro e164 he165
   have h166 := envp (t := 4) he165 rfl h152
   have h167 := envp (t := 7) he165 rfl h153
   clear h152 h153 h154 h155
   refine Ev.kblkN ?_
   refine Ev.kseqN ?_
   refine Ev.seq ?_
   refine Ev.reg (fun _ => rfl) ?_
   refine Ev.nxk (ldOA h167 o162 rfl rfl (ble rfl) rfl) ?_
   refine Ev.nxput (stO h166 rfl o159 rfl rfl ⟨rfl, ble rfl⟩ (all1 rfl (all1 (okL o160 (by simp)) (all1 (okL o161 (by simp)) all0))) rfl) ?_
   intro M168 hM169
   have o170 : M168[([] : Mem).length]? = some (.live ⟨.box, 56, 3, [[.int .i64 a2.Day, .lsl M2.length r35.length 0 r35.length, .lsl (M2.length + 1) r36.length 0 r36.length]]⟩) := set_same hM169 o159
   have o171 := set_ne hM169 (Ne.symm ne42) o160
   have o172 := set_ne hM169 (Ne.symm ne44) o161
   have o173 := set_ne hM169 (Ne.symm ne51) o162
   refine Ev.nxk (mvO rfl) ?_
   refine Ev.rend ?_
   intro e174 he175
   have h176 := envp (t := 4) he175 rfl h166
   have h177 : eget e174 5 = .int .i64 0 := envp he175 rfl rfl
   clear h166 h167
   refine Ev.kseqN ?_
   refine Ev.ex ?_
   cases h
   exact Ev.kendR (resC (ag := true) (sz := 3) ⟨by kernel_rfl, by kernel_rfl, by kernel_rfl⟩ (ldOA h176 o170 rfl rfl (ble rfl) rfl) (resT h177 res0)) (rr_tup (mp1 (rr_agg (mp1 rfl (mp1 (rr_row o171 rfl (cI_fl _)) (mp1 (rr_row o172 (by simp) Tally.fl) mp0)))) (mp1 rfl mp0)))
  refine Ev.condF h155 hb156 ?_
  refine Ev.ex ?_
  refine Ev.kblkN ?_
  refine Ev.kseqN ?_
  refine Ev.seq ?_
  refine Ev.reg (fun _ => rfl) ?_
  refine Ev.nxk (ldOA h153 o143 rfl rfl (ble rfl) rfl) ?_
  refine Ev.nxput (stO h152 rfl o140 rfl rfl ⟨rfl, ble rfl⟩ (all1 rfl (all1 (okL o141 (by simp)) (all1 (okL o142 (by simp)) all0))) rfl) ?_
  intro M178 hM179
  have o180 : M178[([] : Mem).length]? = some (.live ⟨.box, 56, 3, [[.int .i64 a2.Day, .lsl M2.length r35.length 0 r35.length, .lsl (M2.length + 1) r36.length 0 r36.length]]⟩) := set_same hM179 o140
  have o181 := set_ne hM179 (Ne.symm ne42) o141
  have o182 := set_ne hM179 (Ne.symm ne44) o142
  have o183 := set_ne hM179 (Ne.symm ne51) o143
  refine Ev.nxk (mvO rfl) ?_
  refine Ev.rend ?_
  intro e184 he185
  have h186 := envp (t := 4) he185 rfl h152
  have h187 : eget e184 5 = .int .i64 0 := envp he185 rfl rfl
  clear h152 h153 h154 h155
  refine Ev.kseqN ?_
  refine Ev.ex ?_
  cases h
  exact Ev.kendR (resC (ag := true) (sz := 3) ⟨by kernel_rfl, by kernel_rfl, by kernel_rfl⟩ (ldOA h186 o180 rfl rfl (ble rfl) rfl) (resT h187 res0)) (rr_tup (mp1 (rr_agg (mp1 rfl (mp1 (rr_row o181 rfl (cI_fl _)) (mp1 (rr_row o182 (by simp) Tally.fl) mp0)))) (mp1 rfl mp0)))
 refine Ev.condF h136 hb137 ?_
 refine Ev.seq ?_
 refine Ev.reg (fun _ => rfl) ?_
 refine Ev.nxk (bEql h135 rfl) ?_
 refine Ev.nxk (mvO rfl) ?_
 refine Ev.rend ?_
 intro e188 he189
 have h190 := envp (t := 1) he189 rfl h131
 have h191 := envp (t := 4) he189 rfl h132
 have h192 := envp (t := 7) he189 rfl h133
 have h193 := envp (t := 8) he189 rfl h134
 have h194 := envp (t := 65) he189 rfl h135
 have h195 : eget e188 87 = .bool (a2.Kind == 3) := envp he189 rfl rfl
 clear h131 h132 h133 h134 h135 h136
 refine Ev.kseqN ?_
 rcases ite_some h with ⟨hb196, h⟩ | ⟨hb196, h⟩
 ·refine Ev.condT h195 hb196 ?_
  refine Ev.seq ?_
  refine Ev.regD (fun _ => rfl) ?_
  refine Ev.nfk (faO h192 o73 rfl) ?_
  refine Ev.nfk (ldO rfl o73 rfl rfl rfl) ?_
  refine Ev.nfk (mvO h193) ?_
  refine Ev.nfk (ncO rfl o72 (by simp)) ?_
  refine Ev.nfk (faO rfl o72 (by simp)) ?_
  refine Ev.nfk (ldO rfl o72 (by simp) (by rw [Nat.zero_add]; exact mapg (rd_get hx115).2) rfl) ?_
  obtain ⟨x197, hx198, h⟩ := bind_some h
  refine Ev.nfk (ixO rfl o71 rfl rfl (rd_get hx198).1 (rd_lt hx198).2) ?_
  refine Ev.nfk (ldO rfl o71 (by simp) (by rw [Nat.zero_add]; exact mapg (rd_get hx198).2) rfl) ?_
  refine Ev.nfk (mvO h190) ?_
  refine Ev.nfk (ncP rfl) ?_
  refine Ev.nfk (faP rfl ⟨ble rfl, blt rfl⟩ rfl) ?_
  refine Ev.nfk (ldP rfl rfl) ?_
  refine Ev.nfk (bSub rfl rfl) ?_
  obtain ⟨x199, hx200, h⟩ := bind_some h
  refine Ev.nfk (ixO rfl o71 rfl rfl (rd_get hx200).1 (rd_lt hx200).2) ?_
  refine Ev.fend0 ?_
  refine Ev.nxput (stR (u := x199) (u' := (IntKind.i64.wrap (x197 - a2.Amount))) rfl rfl o71 rfl (by rw [Nat.zero_add]; exact (rd_get hx200).2) ⟨rfl, ble rfl⟩ rfl rfl) ?_
  intro M201 hM202
  rw [Nat.zero_add] at hM202
  have o203 := set_ne hM202 ne42 o70
  have o204 : M201[M2.length]? = some (.live ⟨.grow, 2, 1, (r35.set x114.Debtor.toNat (IntKind.i64.wrap (x197 - a2.Amount))).map (cI .i64)⟩) := set_same hM202 o71
  have o205 := set_ne hM202 (Ne.symm ne45) o72
  have o206 := set_ne hM202 (Ne.symm ne53) o73
  have hx207 := rd_set (u' := (IntKind.i64.wrap (x197 - a2.Amount))) hx200
  refine Ev.rend ?_
  intro e208 he209
  have h210 := envp (t := 1) he209 rfl h190
  have h211 := envp (t := 4) he209 rfl h191
  have h212 := envp (t := 7) he209 rfl h192
  have h213 := envp (t := 8) he209 rfl h193
  clear h190 h191 h192 h193 h194 h195
  refine Ev.kseqN ?_
  refine Ev.seq ?_
  refine Ev.regD (fun _ => rfl) ?_
  refine Ev.nfk (faO h212 o206 rfl) ?_
  refine Ev.nfk (ldO rfl o206 rfl rfl rfl) ?_
  refine Ev.nfk (mvO h213) ?_
  refine Ev.nfk (ncO rfl o205 (by simp)) ?_
  refine Ev.nfk (faO rfl o205 (by simp)) ?_
  refine Ev.nfk (ldO rfl o205 (by simp) (by rw [Nat.zero_add]; exact mapg (rd_get hx115).2) rfl) ?_
  obtain ⟨x214, hx215, h⟩ := bind_some h
  refine Ev.nfk (ixO (lslL (L' := (r35.set x114.Debtor.toNat (IntKind.i64.wrap (x197 - a2.Amount))).length) rfl (by simp)) o204 rfl rfl (rd_get hx215).1 (rd_lt hx215).2) ?_
  refine Ev.nfk (ldO rfl o204 (by simp) (by rw [Nat.zero_add]; exact mapg (rd_get hx215).2) rfl) ?_
  refine Ev.nfk (mvO h210) ?_
  refine Ev.nfk (ncP rfl) ?_
  refine Ev.nfk (faP rfl ⟨ble rfl, blt rfl⟩ rfl) ?_
  refine Ev.nfk (ldP rfl rfl) ?_
  refine Ev.nfk (bAdd rfl rfl) ?_
  obtain ⟨x216, hx217, h⟩ := bind_some h
  refine Ev.nfk (ixO (lslL (L' := (r35.set x114.Debtor.toNat (IntKind.i64.wrap (x197 - a2.Amount))).length) rfl (by simp)) o204 rfl rfl (rd_get hx217).1 (rd_lt hx217).2) ?_
  refine Ev.fend0 ?_
  refine Ev.nxput (stR (u := x216) (u' := (IntKind.i64.wrap (x214 + a2.Amount))) rfl rfl o204 rfl (by rw [Nat.zero_add]; exact (rd_get hx217).2) ⟨rfl, ble rfl⟩ rfl rfl) ?_
  intro M218 hM219
  rw [Nat.zero_add] at hM219
  have o220 := set_ne hM219 ne42 o203
  have o221 : M218[M2.length]? = some (.live ⟨.grow, 2, 1, ((r35.set x114.Debtor.toNat (IntKind.i64.wrap (x197 - a2.Amount))).set x114.Holder.toNat (IntKind.i64.wrap (x214 + a2.Amount))).map (cI .i64)⟩) := set_same hM219 o204
  have o222 := set_ne hM219 (Ne.symm ne45) o205
  have o223 := set_ne hM219 (Ne.symm ne53) o206
  have hx224 := rd_set (u' := (IntKind.i64.wrap (x214 + a2.Amount))) hx217
  refine Ev.rend ?_
  intro e225 he226
  have h227 := envp (t := 1) he226 rfl h210
  have h228 := envp (t := 4) he226 rfl h211
  have h229 := envp (t := 7) he226 rfl h212
  have h230 := envp (t := 8) he226 rfl h213
  clear h210 h211 h212 h213
  refine Ev.kseqN ?_
  refine Ev.regD (fun _ => rfl) ?_
  refine Ev.nfk (mvO h230) ?_
  refine Ev.nfk (ncO rfl o222 (by simp)) ?_
  refine Ev.nfk (faO rfl o222 (by simp)) ?_
  refine Ev.nfk (ldO rfl o222 (by simp) (by rw [Nat.zero_add]; exact mapg (rd_get hx115).2) rfl) ?_
  refine Ev.nfk (mvO h227) ?_
  refine Ev.nfk (ncP rfl) ?_
  refine Ev.nfk (faP rfl ⟨ble rfl, blt rfl⟩ rfl) ?_
  refine Ev.nfk (ldP rfl rfl) ?_
  refine Ev.nfk (bSub rfl rfl) ?_
  refine Ev.nfk (ncO rfl o222 (by simp)) ?_
  refine Ev.nfk (faO rfl o222 (by simp)) ?_
  refine Ev.fend0 ?_
  refine Ev.nxput (stR (u := x114) (u' := (Tally.mk x114.Debtor x114.Holder x114.Cut x114.Amount (IntKind.i64.wrap (x114.Left - a2.Amount)))) rfl rfl o222 rfl (by rw [Nat.zero_add]; exact (rd_get hx115).2) ⟨rfl, ble rfl⟩ rfl rfl) ?_
  intro M231 hM232
  rw [Nat.zero_add] at hM232
  have o233 := set_ne hM232 ne44 o220
  have o234 := set_ne hM232 ne45 o221
  have o235 : M231[(M2.length + 1)]? = some (.live ⟨.grow, 156, 5, (r36.set a2.Tally.toNat (Tally.mk x114.Debtor x114.Holder x114.Cut x114.Amount (IntKind.i64.wrap (x114.Left - a2.Amount)))).map Tally.c⟩) := set_same hM232 o222
  have o236 := set_ne hM232 (Ne.symm ne55) o223
  have hx237 := rd_set (u' := (Tally.mk x114.Debtor x114.Holder x114.Cut x114.Amount (IntKind.i64.wrap (x114.Left - a2.Amount)))) hx115
  refine Ev.rend ?_
  intro e238 he239
  have h240 := envp (t := 4) he239 rfl h228
  have h241 := envp (t := 7) he239 rfl h229
  clear h227 h228 h229 h230
  refine Ev.kblkN ?_
  refine Ev.kseqN ?_
  refine Ev.seq ?_
  refine Ev.reg (fun _ => rfl) ?_
  refine Ev.nxk (ldOA h241 o236 rfl rfl (ble rfl) rfl) ?_
  refine Ev.nxput (stO h240 rfl o233 rfl rfl ⟨rfl, ble rfl⟩ (all1 rfl (all1 (okL o234 (by simp)) (all1 (okL o235 (by simp)) all0))) rfl) ?_
  intro M242 hM243
  have o244 : M242[([] : Mem).length]? = some (.live ⟨.box, 56, 3, [[.int .i64 a2.Day, .lsl M2.length r35.length 0 r35.length, .lsl (M2.length + 1) r36.length 0 r36.length]]⟩) := set_same hM243 o233
  have o245 := set_ne hM243 (Ne.symm ne42) o234
  have o246 := set_ne hM243 (Ne.symm ne44) o235
  have o247 := set_ne hM243 (Ne.symm ne51) o236
  refine Ev.nxk (mvO rfl) ?_
  refine Ev.rend ?_
  intro e248 he249
  have h250 := envp (t := 4) he249 rfl h240
  have h251 : eget e248 5 = .int .i64 0 := envp he249 rfl rfl
  clear h240 h241
  refine Ev.kseqN ?_
  refine Ev.ex ?_
  cases h
  exact Ev.kendR (resC (ag := true) (sz := 3) ⟨by kernel_rfl, by kernel_rfl, by kernel_rfl⟩ (ldOA h250 o244 rfl rfl (ble rfl) rfl) (resT h251 res0)) (rr_tup (mp1 (rr_agg (mp1 rfl (mp1 (rr_row o245 (by simp) (cI_fl _)) (mp1 (rr_row o246 (by simp) Tally.fl) mp0)))) (mp1 rfl mp0)))
 refine Ev.condF h195 hb196 ?_
 refine Ev.seq ?_
 refine Ev.reg (fun _ => rfl) ?_
 refine Ev.nxk (bEql h194 rfl) ?_
 refine Ev.nxk (mvO rfl) ?_
 refine Ev.rend ?_
 intro e252 he253
 have h254 := envp (t := 4) he253 rfl h191
 have h255 := envp (t := 7) he253 rfl h192
 have h256 := envp (t := 8) he253 rfl h193
 have h257 : eget e252 128 = .bool (a2.Kind == 4) := envp he253 rfl rfl
 clear h190 h191 h192 h193 h194 h195
 refine Ev.kseqN ?_
 rcases ite_some h with ⟨hb258, h⟩ | ⟨hb258, h⟩
 ·refine Ev.condT h257 hb258 ?_
  refine Ev.reg (fun _ => rfl) ?_
  refine Ev.nxk (mvO h256) ?_
  refine Ev.nxk (ncO rfl o72 (by simp)) ?_
  refine Ev.nxk (faO rfl o72 (by simp)) ?_
  refine Ev.nxput (stR (u := x114) (u' := (Tally.mk x114.Debtor x114.Holder x114.Cut x114.Amount 0)) rfl rfl o72 rfl (by rw [Nat.zero_add]; exact (rd_get hx115).2) ⟨rfl, ble rfl⟩ rfl rfl) ?_
  intro M259 hM260
  rw [Nat.zero_add] at hM260
  have o261 := set_ne hM260 ne44 o70
  have o262 := set_ne hM260 ne45 o71
  have o263 : M259[(M2.length + 1)]? = some (.live ⟨.grow, 156, 5, (r36.set a2.Tally.toNat (Tally.mk x114.Debtor x114.Holder x114.Cut x114.Amount 0)).map Tally.c⟩) := set_same hM260 o72
  have o264 := set_ne hM260 (Ne.symm ne55) o73
  have hx265 := rd_set (u' := (Tally.mk x114.Debtor x114.Holder x114.Cut x114.Amount 0)) hx115
  refine Ev.rend ?_
  intro e266 he267
  have h268 := envp (t := 4) he267 rfl h254
  have h269 := envp (t := 7) he267 rfl h255
  clear h254 h255 h256 h257
  refine Ev.kblkN ?_
  refine Ev.kseqN ?_
  refine Ev.seq ?_
  refine Ev.reg (fun _ => rfl) ?_
  refine Ev.nxk (ldOA h269 o264 rfl rfl (ble rfl) rfl) ?_
  refine Ev.nxput (stO h268 rfl o261 rfl rfl ⟨rfl, ble rfl⟩ (all1 rfl (all1 (okL o262 (by simp)) (all1 (okL o263 (by simp)) all0))) rfl) ?_
  intro M270 hM271
  have o272 : M270[([] : Mem).length]? = some (.live ⟨.box, 56, 3, [[.int .i64 a2.Day, .lsl M2.length r35.length 0 r35.length, .lsl (M2.length + 1) r36.length 0 r36.length]]⟩) := set_same hM271 o261
  have o273 := set_ne hM271 (Ne.symm ne42) o262
  have o274 := set_ne hM271 (Ne.symm ne44) o263
  have o275 := set_ne hM271 (Ne.symm ne51) o264
  refine Ev.nxk (mvO rfl) ?_
  refine Ev.rend ?_
  intro e276 he277
  have h278 := envp (t := 4) he277 rfl h268
  have h279 : eget e276 5 = .int .i64 0 := envp he277 rfl rfl
  clear h268 h269
  refine Ev.kseqN ?_
  refine Ev.ex ?_
  cases h
  exact Ev.kendR (resC (ag := true) (sz := 3) ⟨by kernel_rfl, by kernel_rfl, by kernel_rfl⟩ (ldOA h278 o272 rfl rfl (ble rfl) rfl) (resT h279 res0)) (rr_tup (mp1 (rr_agg (mp1 rfl (mp1 (rr_row o273 rfl (cI_fl _)) (mp1 (rr_row o274 (by simp) Tally.fl) mp0)))) (mp1 rfl mp0)))
 refine Ev.condF h257 hb258 ?_
 refine Ev.ex ?_
 refine Ev.kblkN ?_
 refine Ev.kseqN ?_
 refine Ev.seq ?_
 refine Ev.reg (fun _ => rfl) ?_
 refine Ev.nxk (ldOA h255 o73 rfl rfl (ble rfl) rfl) ?_
 refine Ev.nxput (stO h254 rfl o70 rfl rfl ⟨rfl, ble rfl⟩ (all1 rfl (all1 (okL o71 (by simp)) (all1 (okL o72 (by simp)) all0))) rfl) ?_
 intro M280 hM281
 have o282 : M280[([] : Mem).length]? = some (.live ⟨.box, 56, 3, [[.int .i64 a2.Day, .lsl M2.length r35.length 0 r35.length, .lsl (M2.length + 1) r36.length 0 r36.length]]⟩) := set_same hM281 o70
 have o283 := set_ne hM281 (Ne.symm ne42) o71
 have o284 := set_ne hM281 (Ne.symm ne44) o72
 have o285 := set_ne hM281 (Ne.symm ne51) o73
 refine Ev.nxk (mvO rfl) ?_
 refine Ev.rend ?_
 intro e286 he287
 have h288 := envp (t := 4) he287 rfl h254
 have h289 : eget e286 5 = .int .i64 0 := envp he287 rfl rfl
 clear h254 h255 h256 h257
 refine Ev.kseqN ?_
 refine Ev.ex ?_
 cases h
 exact Ev.kendR (resC (ag := true) (sz := 3) ⟨by kernel_rfl, by kernel_rfl, by kernel_rfl⟩ (ldOA h288 o282 rfl rfl (ble rfl) rfl) (resT h289 res0)) (rr_tup (mp1 (rr_agg (mp1 rfl (mp1 (rr_row o283 rfl (cI_fl _)) (mp1 (rr_row o284 rfl Tally.fl) mp0)))) (mp1 rfl mp0)))
/-! ### loop.example/g01263/spec.l07Deal (f62) -/
noncomputable def spec_l07Deal (a1 : Deal) : Option Bool :=
 (spec_l00In a1.Tally 0 39).bind fun r5 =>
 (spec_l00In a1.From 0 15).bind fun r11 =>
 (spec_l00In a1.To 0 15).bind fun r18 =>
 (spec_l00In a1.Amount 1 100000000).bind fun r26 =>
 (spec_l07Day a1.Day).bind fun r35 =>
 if r35 = true then
  if (a1.Kind == 1) = true then
   if (a1.Tally == 0) = true then
    if r11 = true then
     if r18 = true then
      some r26
     else
      some false
    else
     some false
   else
    some false
  else
   if (a1.Kind == 2) = true then
    if r5 = true then
     if r11 = true then
      if r18 = true then
       some (a1.Amount == 0)
      else
       some false
     else
      some false
    else
     some false
   else
    if (a1.Kind == 3) = true then
     if r5 = true then
      if (a1.From == 0) = true then
       if (a1.To == 0) = true then
        some r26
       else
        some false
      else
       some false
     else
      some false
    else
     if (a1.Kind == 4) = true then
      if r5 = true then
       if r11 = true then
        if (a1.To == 0) = true then
         some (a1.Amount == 0)
        else
         some false
       else
        some false
      else
       some false
     else
      some false
 else
  some false
def spec_l07Deal_enc (r : Bool) : AV := .bool r
theorem spec_l07Deal_ok (a1 : Deal) (r : Bool) (h : spec_l07Deal a1 = some r) : Ev (fun k => CN k 62 [.pt none [.int .i64 a1.Day, .int .i8 a1.Kind, .int .i64 a1.Tally, .int .i64 a1.From, .int .i64 a1.To, .int .i64 a1.Amount]] []) (fun p => rRes p.2 p.1 = spec_l07Deal_enc r) := by
 unfold spec_l07Deal at h
 refine Ev.enter (F := fun k => f62 (CN k) k) (fun k => callN_eq rfl Try.func62 rfl rfl rfl (by decide +kernel) (f62_eq _ _)) ?_
 refine Ev.seq ?_
 refine Ev.reg (fun _ => rfl) ?_
 refine Ev.nxk (mvO rfl) ?_
 refine Ev.rend ?_
 intro e1 he2
 have h3 : eget e1 0 = .pt none [.int .i64 a1.Day, .int .i8 a1.Kind, .int .i64 a1.Tally, .int .i64 a1.From, .int .i64 a1.To, .int .i64 a1.Amount] := envp he2 rfl rfl
 refine Ev.kseqN ?_
 refine Ev.seq ?_
 refine Ev.reg (fun _ => rfl) ?_
 refine Ev.nxk (mvO h3) ?_
 refine Ev.nxk (ncP rfl) ?_
 refine Ev.nxk (faP rfl ⟨ble rfl, blt rfl⟩ rfl) ?_
 refine Ev.nxk (ldP rfl rfl) ?_
 obtain ⟨r5, hx4, h⟩ := bind_some h
 refine Ev.nxck (Ev.call (v := .bool r5) rfl (cns rfl (cns rfl (cns rfl rfl))) rfl (spec_l00In_ok a1.Tally 0 39 _ hx4) (fun h => nomatch (show false = true from h))) ?_
 refine Ev.nxk (mvO rfl) ?_
 refine Ev.rend ?_
 intro e6 he7
 have h8 := envp (t := 0) he7 rfl h3
 have h9 : eget e6 3 = .bool r5 := envp he7 rfl rfl
 clear h3
 refine Ev.kseqN ?_
 refine Ev.seq ?_
 refine Ev.reg (fun _ => rfl) ?_
 refine Ev.nxk (mvO h8) ?_
 refine Ev.nxk (ncP rfl) ?_
 refine Ev.nxk (faP rfl ⟨ble rfl, blt rfl⟩ rfl) ?_
 refine Ev.nxk (ldP rfl rfl) ?_
 obtain ⟨r11, hx10, h⟩ := bind_some h
 refine Ev.nxck (Ev.call (v := .bool r11) rfl (cns rfl (cns rfl (cns rfl rfl))) rfl (spec_l00In_ok a1.From 0 15 _ hx10) (fun h => nomatch (show false = true from h))) ?_
 refine Ev.nxk (mvO rfl) ?_
 refine Ev.rend ?_
 intro e12 he13
 have h14 := envp (t := 0) he13 rfl h8
 have h15 : eget e12 3 = .bool r5 := envp he13 rfl h9
 have h16 : eget e12 4 = .bool r11 := envp he13 rfl rfl
 clear h8 h9
 refine Ev.kseqN ?_
 refine Ev.seq ?_
 refine Ev.reg (fun _ => rfl) ?_
 refine Ev.nxk (mvO h14) ?_
 refine Ev.nxk (ncP rfl) ?_
 refine Ev.nxk (faP rfl ⟨ble rfl, blt rfl⟩ rfl) ?_
 refine Ev.nxk (ldP rfl rfl) ?_
 obtain ⟨r18, hx17, h⟩ := bind_some h
 refine Ev.nxck (Ev.call (v := .bool r18) rfl (cns rfl (cns rfl (cns rfl rfl))) rfl (spec_l00In_ok a1.To 0 15 _ hx17) (fun h => nomatch (show false = true from h))) ?_
 refine Ev.nxk (mvO rfl) ?_
 refine Ev.rend ?_
 intro e19 he20
 have h21 := envp (t := 0) he20 rfl h14
 have h22 : eget e19 3 = .bool r5 := envp he20 rfl h15
 have h23 : eget e19 4 = .bool r11 := envp he20 rfl h16
 have h24 : eget e19 5 = .bool r18 := envp he20 rfl rfl
 clear h14 h15 h16
 refine Ev.kseqN ?_
 refine Ev.seq ?_
 refine Ev.reg (fun _ => rfl) ?_
 refine Ev.nxk (mvO h21) ?_
 refine Ev.nxk (ncP rfl) ?_
 refine Ev.nxk (faP rfl ⟨ble rfl, blt rfl⟩ rfl) ?_
 refine Ev.nxk (ldP rfl rfl) ?_
 obtain ⟨r26, hx25, h⟩ := bind_some h
 refine Ev.nxck (Ev.call (v := .bool r26) rfl (cns rfl (cns rfl (cns rfl rfl))) rfl (spec_l00In_ok a1.Amount 1 100000000 _ hx25) (fun h => nomatch (show false = true from h))) ?_
 refine Ev.nxk (mvO rfl) ?_
 refine Ev.rend ?_
 intro e27 he28
 have h29 := envp (t := 0) he28 rfl h21
 have h30 : eget e27 3 = .bool r5 := envp he28 rfl h22
 have h31 : eget e27 4 = .bool r11 := envp he28 rfl h23
 have h32 : eget e27 5 = .bool r18 := envp he28 rfl h24
 have h33 : eget e27 6 = .bool r26 := envp he28 rfl rfl
 clear h21 h22 h23 h24
 refine Ev.kseqN ?_
 refine Ev.seq ?_
 refine Ev.seq ?_
 refine Ev.reg (fun _ => rfl) ?_
 refine Ev.nxk (mvO h29) ?_
 refine Ev.nxk (ncP rfl) ?_
 refine Ev.nxk (faP rfl ⟨ble rfl, blt rfl⟩ rfl) ?_
 refine Ev.nxk (ldP rfl rfl) ?_
 obtain ⟨r35, hx34, h⟩ := bind_some h
 refine Ev.nxck (Ev.call (v := .bool r35) rfl (cns rfl rfl) rfl (spec_l07Day_ok a1.Day _ hx34) (fun h => nomatch (show false = true from h))) ?_
 refine Ev.nxk (uNot rfl) ?_
 refine Ev.rend ?_
 intro e36 he37
 have h38 := envp (t := 0) he37 rfl h29
 have h39 : eget e36 3 = .bool r5 := envp he37 rfl h30
 have h40 : eget e36 4 = .bool r11 := envp he37 rfl h31
 have h41 : eget e36 5 = .bool r18 := envp he37 rfl h32
 have h42 : eget e36 6 = .bool r26 := envp he37 rfl h33
 have h43 : eget e36 32 = .bool (!r35) := envp he37 rfl rfl
 clear h29 h30 h31 h32 h33
 refine Ev.kseqN ?_
 rcases ite_some h with ⟨hb44, h⟩ | ⟨hb44, h⟩
 ·refine Ev.condF h43 (congrArg Bool.not hb44) ?_
  refine Ev.ex ?_
  refine Ev.kseqN ?_
  refine Ev.seq ?_
  refine Ev.seq ?_
  refine Ev.reg (fun _ => rfl) ?_
  refine Ev.nxk (mvO h38) ?_
  refine Ev.nxk (ncP rfl) ?_
  refine Ev.nxk (faP rfl ⟨ble rfl, blt rfl⟩ rfl) ?_
  refine Ev.nxk (ldP rfl rfl) ?_
  refine Ev.rend ?_
  intro e45 he46
  have h47 := envp (t := 0) he46 rfl h38
  have h48 : eget e45 3 = .bool r5 := envp he46 rfl h39
  have h49 : eget e45 4 = .bool r11 := envp he46 rfl h40
  have h50 : eget e45 5 = .bool r18 := envp he46 rfl h41
  have h51 : eget e45 6 = .bool r26 := envp he46 rfl h42
  have h52 : eget e45 36 = .int .i8 a1.Kind := envp he46 rfl rfl
  clear h38 h39 h40 h41 h42 h43
  refine Ev.kseqN ?_
  refine Ev.blk ?_
  refine Ev.seq ?_
  refine Ev.reg (fun _ => rfl) ?_
  refine Ev.nxk (bEql h52 rfl) ?_
  refine Ev.nxk (mvO rfl) ?_
  refine Ev.rend ?_
  intro e53 he54
  have h55 := envp (t := 0) he54 rfl h47
  have h56 : eget e53 3 = .bool r5 := envp he54 rfl h48
  have h57 : eget e53 4 = .bool r11 := envp he54 rfl h49
  have h58 : eget e53 5 = .bool r18 := envp he54 rfl h50
  have h59 : eget e53 6 = .bool r26 := envp he54 rfl h51
  have h60 := envp (t := 36) he54 rfl h52
  have h61 : eget e53 37 = .bool (a1.Kind == 1) := envp he54 rfl rfl
  clear h47 h48 h49 h50 h51 h52
  refine Ev.kseqN ?_
  rcases ite_some h with ⟨hb62, h⟩ | ⟨hb62, h⟩
  ·refine Ev.condT h61 hb62 ?_
   refine Ev.seq ?_
   refine Ev.reg (fun _ => rfl) ?_
   refine Ev.nxk (mvO h55) ?_
   refine Ev.nxk (ncP rfl) ?_
   refine Ev.nxk (faP rfl ⟨ble rfl, blt rfl⟩ rfl) ?_
   refine Ev.nxk (ldP rfl rfl) ?_
   refine Ev.nxk (bEql rfl rfl) ?_
   refine Ev.nxk (mvO rfl) ?_
   rcases ite_some h with ⟨hb63, h⟩ | ⟨hb63, h⟩
   ·refine Ev.nxk (guT rfl hb63 (mvO h57)) ?_
    refine Ev.nxk (pkT rfl hb63 rfl) ?_
    refine Ev.nxk (mvO rfl) ?_
    rcases ite_some h with ⟨hb64, h⟩ | ⟨hb64, h⟩
    ·refine Ev.nxk (guT rfl hb64 (mvO h58)) ?_
     refine Ev.nxk (pkT rfl hb64 rfl) ?_
     refine Ev.nxk (mvO rfl) ?_
     rcases ite_some h with ⟨hb65, h⟩ | ⟨hb65, h⟩
     ·refine Ev.nxk (guT rfl hb65 (mvO h59)) ?_
      refine Ev.nxk (pkT rfl hb65 rfl) ?_
      refine Ev.nxk (mvO rfl) ?_
      refine Ev.rend ?_
      intro e66 he67
      have h68 : eget e66 2 = .bool r26 := envp he67 rfl rfl
      clear h55 h56 h57 h58 h59 h60 h61
      refine Ev.kseqN ?_
      refine Ev.ex ?_
      refine Ev.kblkR ?_
      refine Ev.kseqR ?_
      cases h
      exact Ev.kendR (resT h68 res0) rfl
     refine Ev.nxk (gsT rfl hb65) ?_
     refine Ev.nxk (pkF rfl hb65 rfl) ?_
     refine Ev.nxk (mvO rfl) ?_
     refine Ev.rend ?_
     intro e69 he70
     have h71 : eget e69 2 = .bool false := envp he70 rfl rfl
     clear h55 h56 h57 h58 h59 h60 h61
     refine Ev.kseqN ?_
     refine Ev.ex ?_
     refine Ev.kblkR ?_
     refine Ev.kseqR ?_
     cases h
     exact Ev.kendR (resT h71 res0) rfl
    refine Ev.nxk (gsT rfl hb64) ?_
    refine Ev.nxk (pkF rfl hb64 rfl) ?_
    refine Ev.nxk (mvO rfl) ?_
    refine Ev.nxk (gsT rfl rfl) ?_
    refine Ev.nxk (pkF rfl rfl rfl) ?_
    refine Ev.nxk (mvO rfl) ?_
    refine Ev.rend ?_
    intro e72 he73
    have h74 : eget e72 2 = .bool false := envp he73 rfl rfl
    clear h55 h56 h57 h58 h59 h60 h61
    refine Ev.kseqN ?_
    refine Ev.ex ?_
    refine Ev.kblkR ?_
    refine Ev.kseqR ?_
    cases h
    exact Ev.kendR (resT h74 res0) rfl
   refine Ev.nxk (gsT rfl hb63) ?_
   refine Ev.nxk (pkF rfl hb63 rfl) ?_
   refine Ev.nxk (mvO rfl) ?_
   refine Ev.nxk (gsT rfl rfl) ?_
   refine Ev.nxk (pkF rfl rfl rfl) ?_
   refine Ev.nxk (mvO rfl) ?_
   refine Ev.nxk (gsT rfl rfl) ?_
   refine Ev.nxk (pkF rfl rfl rfl) ?_
   refine Ev.nxk (mvO rfl) ?_
   refine Ev.rend ?_
   intro e75 he76
   have h77 : eget e75 2 = .bool false := envp he76 rfl rfl
   clear h55 h56 h57 h58 h59 h60 h61
   refine Ev.kseqN ?_
   refine Ev.ex ?_
   refine Ev.kblkR ?_
   refine Ev.kseqR ?_
   cases h
   exact Ev.kendR (resT h77 res0) rfl
  refine Ev.condF h61 hb62 ?_
  refine Ev.seq ?_
  refine Ev.reg (fun _ => rfl) ?_
  refine Ev.nxk (bEql h60 rfl) ?_
  refine Ev.nxk (mvO rfl) ?_
  refine Ev.rend ?_
  intro e78 he79
  have h80 := envp (t := 0) he79 rfl h55
  have h81 : eget e78 3 = .bool r5 := envp he79 rfl h56
  have h82 : eget e78 4 = .bool r11 := envp he79 rfl h57
  have h83 : eget e78 5 = .bool r18 := envp he79 rfl h58
  have h84 : eget e78 6 = .bool r26 := envp he79 rfl h59
  have h85 := envp (t := 36) he79 rfl h60
  have h86 : eget e78 53 = .bool (a1.Kind == 2) := envp he79 rfl rfl
  clear h55 h56 h57 h58 h59 h60 h61
  refine Ev.kseqN ?_
  rcases ite_some h with ⟨hb87, h⟩ | ⟨hb87, h⟩
  ·refine Ev.condT h86 hb87 ?_
   refine Ev.seq ?_
   refine Ev.reg (fun _ => rfl) ?_
   refine Ev.nxk (mvO h81) ?_
   refine Ev.nxk (mvO rfl) ?_
   rcases ite_some h with ⟨hb88, h⟩ | ⟨hb88, h⟩
   ·refine Ev.nxk (guT rfl hb88 (mvO h82)) ?_
    refine Ev.nxk (pkT rfl hb88 rfl) ?_
    refine Ev.nxk (mvO rfl) ?_
    rcases ite_some h with ⟨hb89, h⟩ | ⟨hb89, h⟩
    ·refine Ev.nxk (guT rfl hb89 (mvO h83)) ?_
     refine Ev.nxk (pkT rfl hb89 rfl) ?_
     refine Ev.nxk (mvO rfl) ?_
     rcases ite_some h with ⟨hb90, h⟩ | ⟨hb90, h⟩
     ·refine Ev.nxk (guT rfl hb90 (mvO h80)) ?_
      refine Ev.nxk (guT rfl hb90 (ncP rfl)) ?_
      refine Ev.nxk (guT rfl hb90 (faP rfl ⟨ble rfl, blt rfl⟩ rfl)) ?_
      refine Ev.nxk (guT rfl hb90 (ldP rfl rfl)) ?_
      refine Ev.nxk (guT rfl hb90 (bEql rfl rfl)) ?_
      refine Ev.nxk (pkT rfl hb90 rfl) ?_
      refine Ev.nxk (mvO rfl) ?_
      refine Ev.rend ?_
      intro e91 he92
      have h93 : eget e91 2 = .bool (a1.Amount == 0) := envp he92 rfl rfl
      clear h80 h81 h82 h83 h84 h85 h86
      refine Ev.kseqN ?_
      refine Ev.ex ?_
      refine Ev.kblkR ?_
      refine Ev.kseqR ?_
      cases h
      exact Ev.kendR (resT h93 res0) rfl
     refine Ev.nxk (gsT rfl hb90) ?_
     refine Ev.nxk (gsT rfl hb90) ?_
     refine Ev.nxk (gsT rfl hb90) ?_
     refine Ev.nxk (gsT rfl hb90) ?_
     refine Ev.nxk (gsT rfl hb90) ?_
     refine Ev.nxk (pkF rfl hb90 rfl) ?_
     refine Ev.nxk (mvO rfl) ?_
     refine Ev.rend ?_
     intro e94 he95
     have h96 : eget e94 2 = .bool false := envp he95 rfl rfl
     clear h80 h81 h82 h83 h84 h85 h86
     refine Ev.kseqN ?_
     refine Ev.ex ?_
     refine Ev.kblkR ?_
     refine Ev.kseqR ?_
     cases h
     exact Ev.kendR (resT h96 res0) rfl
    refine Ev.nxk (gsT rfl hb89) ?_
    refine Ev.nxk (pkF rfl hb89 rfl) ?_
    refine Ev.nxk (mvO rfl) ?_
    refine Ev.nxk (gsT rfl rfl) ?_
    refine Ev.nxk (gsT rfl rfl) ?_
    refine Ev.nxk (gsT rfl rfl) ?_
    refine Ev.nxk (gsT rfl rfl) ?_
    refine Ev.nxk (gsT rfl rfl) ?_
    refine Ev.nxk (pkF rfl rfl rfl) ?_
    refine Ev.nxk (mvO rfl) ?_
    refine Ev.rend ?_
    intro e97 he98
    have h99 : eget e97 2 = .bool false := envp he98 rfl rfl
    clear h80 h81 h82 h83 h84 h85 h86
    refine Ev.kseqN ?_
    refine Ev.ex ?_
    refine Ev.kblkR ?_
    refine Ev.kseqR ?_
    cases h
    exact Ev.kendR (resT h99 res0) rfl
   refine Ev.nxk (gsT rfl hb88) ?_
   refine Ev.nxk (pkF rfl hb88 rfl) ?_
   refine Ev.nxk (mvO rfl) ?_
   refine Ev.nxk (gsT rfl rfl) ?_
   refine Ev.nxk (pkF rfl rfl rfl) ?_
   refine Ev.nxk (mvO rfl) ?_
   refine Ev.nxk (gsT rfl rfl) ?_
   refine Ev.nxk (gsT rfl rfl) ?_
   refine Ev.nxk (gsT rfl rfl) ?_
   refine Ev.nxk (gsT rfl rfl) ?_
   refine Ev.nxk (gsT rfl rfl) ?_
   refine Ev.nxk (pkF rfl rfl rfl) ?_
   refine Ev.nxk (mvO rfl) ?_
   refine Ev.rend ?_
   intro e100 he101
   have h102 : eget e100 2 = .bool false := envp he101 rfl rfl
   clear h80 h81 h82 h83 h84 h85 h86
   refine Ev.kseqN ?_
   refine Ev.ex ?_
   refine Ev.kblkR ?_
   refine Ev.kseqR ?_
   cases h
   exact Ev.kendR (resT h102 res0) rfl
  refine Ev.condF h86 hb87 ?_
  refine Ev.seq ?_
  refine Ev.reg (fun _ => rfl) ?_
  refine Ev.nxk (bEql h85 rfl) ?_
  refine Ev.nxk (mvO rfl) ?_
  refine Ev.rend ?_
  intro e103 he104
  have h105 := envp (t := 0) he104 rfl h80
  have h106 : eget e103 3 = .bool r5 := envp he104 rfl h81
  have h107 : eget e103 4 = .bool r11 := envp he104 rfl h82
  have h108 : eget e103 6 = .bool r26 := envp he104 rfl h84
  have h109 := envp (t := 36) he104 rfl h85
  have h110 : eget e103 69 = .bool (a1.Kind == 3) := envp he104 rfl rfl
  clear h80 h81 h82 h83 h84 h85 h86
  refine Ev.kseqN ?_
  rcases ite_some h with ⟨hb111, h⟩ | ⟨hb111, h⟩
  ·refine Ev.condT h110 hb111 ?_
   refine Ev.seq ?_
   refine Ev.reg (fun _ => rfl) ?_
   refine Ev.nxk (mvO h106) ?_
   refine Ev.nxk (mvO rfl) ?_
   rcases ite_some h with ⟨hb112, h⟩ | ⟨hb112, h⟩
   ·refine Ev.nxk (guT rfl hb112 (mvO h105)) ?_
    refine Ev.nxk (guT rfl hb112 (ncP rfl)) ?_
    refine Ev.nxk (guT rfl hb112 (faP rfl ⟨ble rfl, blt rfl⟩ rfl)) ?_
    refine Ev.nxk (guT rfl hb112 (ldP rfl rfl)) ?_
    refine Ev.nxk (guT rfl hb112 (bEql rfl rfl)) ?_
    refine Ev.nxk (pkT rfl hb112 rfl) ?_
    refine Ev.nxk (mvO rfl) ?_
    rcases ite_some h with ⟨hb113, h⟩ | ⟨hb113, h⟩
    ·refine Ev.nxk (guT rfl hb113 (mvO h105)) ?_
     refine Ev.nxk (guT rfl hb113 (ncP rfl)) ?_
     refine Ev.nxk (guT rfl hb113 (faP rfl ⟨ble rfl, blt rfl⟩ rfl)) ?_
     refine Ev.nxk (guT rfl hb113 (ldP rfl rfl)) ?_
     refine Ev.nxk (guT rfl hb113 (bEql rfl rfl)) ?_
     refine Ev.nxk (pkT rfl hb113 rfl) ?_
     refine Ev.nxk (mvO rfl) ?_
     rcases ite_some h with ⟨hb114, h⟩ | ⟨hb114, h⟩
     ·refine Ev.nxk (guT rfl hb114 (mvO h108)) ?_
      refine Ev.nxk (pkT rfl hb114 rfl) ?_
      refine Ev.nxk (mvO rfl) ?_
      refine Ev.rend ?_
      intro e115 he116
      have h117 : eget e115 2 = .bool r26 := envp he116 rfl rfl
      clear h105 h106 h107 h108 h109 h110
      refine Ev.kseqN ?_
      refine Ev.ex ?_
      refine Ev.kblkR ?_
      refine Ev.kseqR ?_
      cases h
      exact Ev.kendR (resT h117 res0) rfl
     refine Ev.nxk (gsT rfl hb114) ?_
     refine Ev.nxk (pkF rfl hb114 rfl) ?_
     refine Ev.nxk (mvO rfl) ?_
     refine Ev.rend ?_
     intro e118 he119
     have h120 : eget e118 2 = .bool false := envp he119 rfl rfl
     clear h105 h106 h107 h108 h109 h110
     refine Ev.kseqN ?_
     refine Ev.ex ?_
     refine Ev.kblkR ?_
     refine Ev.kseqR ?_
     cases h
     exact Ev.kendR (resT h120 res0) rfl
    refine Ev.nxk (gsT rfl hb113) ?_
    refine Ev.nxk (gsT rfl hb113) ?_
    refine Ev.nxk (gsT rfl hb113) ?_
    refine Ev.nxk (gsT rfl hb113) ?_
    refine Ev.nxk (gsT rfl hb113) ?_
    refine Ev.nxk (pkF rfl hb113 rfl) ?_
    refine Ev.nxk (mvO rfl) ?_
    refine Ev.nxk (gsT rfl rfl) ?_
    refine Ev.nxk (pkF rfl rfl rfl) ?_
    refine Ev.nxk (mvO rfl) ?_
    refine Ev.rend ?_
    intro e121 he122
    have h123 : eget e121 2 = .bool false := envp he122 rfl rfl
    clear h105 h106 h107 h108 h109 h110
    refine Ev.kseqN ?_
    refine Ev.ex ?_
    refine Ev.kblkR ?_
    refine Ev.kseqR ?_
    cases h
    exact Ev.kendR (resT h123 res0) rfl
   refine Ev.nxk (gsT rfl hb112) ?_
   refine Ev.nxk (gsT rfl hb112) ?_
   refine Ev.nxk (gsT rfl hb112) ?_
   refine Ev.nxk (gsT rfl hb112) ?_
   refine Ev.nxk (gsT rfl hb112) ?_
   refine Ev.nxk (pkF rfl hb112 rfl) ?_
   refine Ev.nxk (mvO rfl) ?_
   refine Ev.nxk (gsT rfl rfl) ?_
   refine Ev.nxk (gsT rfl rfl) ?_
   refine Ev.nxk (gsT rfl rfl) ?_
   refine Ev.nxk (gsT rfl rfl) ?_
   refine Ev.nxk (gsT rfl rfl) ?_
   refine Ev.nxk (pkF rfl rfl rfl) ?_
   refine Ev.nxk (mvO rfl) ?_
   refine Ev.nxk (gsT rfl rfl) ?_
   refine Ev.nxk (pkF rfl rfl rfl) ?_
   refine Ev.nxk (mvO rfl) ?_
   refine Ev.rend ?_
   intro e124 he125
   have h126 : eget e124 2 = .bool false := envp he125 rfl rfl
   clear h105 h106 h107 h108 h109 h110
   refine Ev.kseqN ?_
   refine Ev.ex ?_
   refine Ev.kblkR ?_
   refine Ev.kseqR ?_
   cases h
   exact Ev.kendR (resT h126 res0) rfl
  refine Ev.condF h110 hb111 ?_
  refine Ev.seq ?_
  refine Ev.reg (fun _ => rfl) ?_
  refine Ev.nxk (bEql h109 rfl) ?_
  refine Ev.nxk (mvO rfl) ?_
  refine Ev.rend ?_
  intro e127 he128
  have h129 := envp (t := 0) he128 rfl h105
  have h130 : eget e127 3 = .bool r5 := envp he128 rfl h106
  have h131 : eget e127 4 = .bool r11 := envp he128 rfl h107
  have h132 : eget e127 89 = .bool (a1.Kind == 4) := envp he128 rfl rfl
  clear h105 h106 h107 h108 h109 h110
  refine Ev.kseqN ?_
  rcases ite_some h with ⟨hb133, h⟩ | ⟨hb133, h⟩
  ·refine Ev.condT h132 hb133 ?_
   refine Ev.seq ?_
   refine Ev.reg (fun _ => rfl) ?_
   refine Ev.nxk (mvO h130) ?_
   refine Ev.nxk (mvO rfl) ?_
   rcases ite_some h with ⟨hb134, h⟩ | ⟨hb134, h⟩
   ·refine Ev.nxk (guT rfl hb134 (mvO h131)) ?_
    refine Ev.nxk (pkT rfl hb134 rfl) ?_
    refine Ev.nxk (mvO rfl) ?_
    rcases ite_some h with ⟨hb135, h⟩ | ⟨hb135, h⟩
    ·refine Ev.nxk (guT rfl hb135 (mvO h129)) ?_
     refine Ev.nxk (guT rfl hb135 (ncP rfl)) ?_
     refine Ev.nxk (guT rfl hb135 (faP rfl ⟨ble rfl, blt rfl⟩ rfl)) ?_
     refine Ev.nxk (guT rfl hb135 (ldP rfl rfl)) ?_
     refine Ev.nxk (guT rfl hb135 (bEql rfl rfl)) ?_
     refine Ev.nxk (pkT rfl hb135 rfl) ?_
     refine Ev.nxk (mvO rfl) ?_
     rcases ite_some h with ⟨hb136, h⟩ | ⟨hb136, h⟩
     ·refine Ev.nxk (guT rfl hb136 (mvO h129)) ?_
      refine Ev.nxk (guT rfl hb136 (ncP rfl)) ?_
      refine Ev.nxk (guT rfl hb136 (faP rfl ⟨ble rfl, blt rfl⟩ rfl)) ?_
      refine Ev.nxk (guT rfl hb136 (ldP rfl rfl)) ?_
      refine Ev.nxk (guT rfl hb136 (bEql rfl rfl)) ?_
      refine Ev.nxk (pkT rfl hb136 rfl) ?_
      refine Ev.nxk (mvO rfl) ?_
      refine Ev.rend ?_
      intro e137 he138
      have h139 : eget e137 2 = .bool (a1.Amount == 0) := envp he138 rfl rfl
      clear h129 h130 h131 h132
      refine Ev.kseqN ?_
      refine Ev.ex ?_
      refine Ev.kblkR ?_
      refine Ev.kseqR ?_
      cases h
      exact Ev.kendR (resT h139 res0) rfl
     refine Ev.nxk (gsT rfl hb136) ?_
     refine Ev.nxk (gsT rfl hb136) ?_
     refine Ev.nxk (gsT rfl hb136) ?_
     refine Ev.nxk (gsT rfl hb136) ?_
     refine Ev.nxk (gsT rfl hb136) ?_
     refine Ev.nxk (pkF rfl hb136 rfl) ?_
     refine Ev.nxk (mvO rfl) ?_
     refine Ev.rend ?_
     intro e140 he141
     have h142 : eget e140 2 = .bool false := envp he141 rfl rfl
     clear h129 h130 h131 h132
     refine Ev.kseqN ?_
     refine Ev.ex ?_
     refine Ev.kblkR ?_
     refine Ev.kseqR ?_
     cases h
     exact Ev.kendR (resT h142 res0) rfl
    refine Ev.nxk (gsT rfl hb135) ?_
    refine Ev.nxk (gsT rfl hb135) ?_
    refine Ev.nxk (gsT rfl hb135) ?_
    refine Ev.nxk (gsT rfl hb135) ?_
    refine Ev.nxk (gsT rfl hb135) ?_
    refine Ev.nxk (pkF rfl hb135 rfl) ?_
    refine Ev.nxk (mvO rfl) ?_
    refine Ev.nxk (gsT rfl rfl) ?_
    refine Ev.nxk (gsT rfl rfl) ?_
    refine Ev.nxk (gsT rfl rfl) ?_
    refine Ev.nxk (gsT rfl rfl) ?_
    refine Ev.nxk (gsT rfl rfl) ?_
    refine Ev.nxk (pkF rfl rfl rfl) ?_
    refine Ev.nxk (mvO rfl) ?_
    refine Ev.rend ?_
    intro e143 he144
    have h145 : eget e143 2 = .bool false := envp he144 rfl rfl
    clear h129 h130 h131 h132
    refine Ev.kseqN ?_
    refine Ev.ex ?_
    refine Ev.kblkR ?_
    refine Ev.kseqR ?_
    cases h
    exact Ev.kendR (resT h145 res0) rfl
   refine Ev.nxk (gsT rfl hb134) ?_
   refine Ev.nxk (pkF rfl hb134 rfl) ?_
   refine Ev.nxk (mvO rfl) ?_
   refine Ev.nxk (gsT rfl rfl) ?_
   refine Ev.nxk (gsT rfl rfl) ?_
   refine Ev.nxk (gsT rfl rfl) ?_
   refine Ev.nxk (gsT rfl rfl) ?_
   refine Ev.nxk (gsT rfl rfl) ?_
   refine Ev.nxk (pkF rfl rfl rfl) ?_
   refine Ev.nxk (mvO rfl) ?_
   refine Ev.nxk (gsT rfl rfl) ?_
   refine Ev.nxk (gsT rfl rfl) ?_
   refine Ev.nxk (gsT rfl rfl) ?_
   refine Ev.nxk (gsT rfl rfl) ?_
   refine Ev.nxk (gsT rfl rfl) ?_
   refine Ev.nxk (pkF rfl rfl rfl) ?_
   refine Ev.nxk (mvO rfl) ?_
   refine Ev.rend ?_
   intro e146 he147
   have h148 : eget e146 2 = .bool false := envp he147 rfl rfl
   clear h129 h130 h131 h132
   refine Ev.kseqN ?_
   refine Ev.ex ?_
   refine Ev.kblkR ?_
   refine Ev.kseqR ?_
   cases h
   exact Ev.kendR (resT h148 res0) rfl
  refine Ev.condF h132 hb133 ?_
  refine Ev.ex ?_
  refine Ev.kblkN ?_
  refine Ev.kseqN ?_
  refine Ev.seq ?_
  refine Ev.reg (fun _ => rfl) ?_
  refine Ev.nxk (mvO rfl) ?_
  refine Ev.rend ?_
  intro e149 he150
  have h151 : eget e149 2 = .bool false := envp he150 rfl rfl
  clear h129 h130 h131 h132
  refine Ev.kseqN ?_
  refine Ev.ex ?_
  cases h
  exact Ev.kendR (resT h151 res0) rfl
 refine Ev.condT h43 (congrArg Bool.not hb44) ?_
 refine Ev.seq ?_
 refine Ev.reg (fun _ => rfl) ?_
 refine Ev.nxk (mvO rfl) ?_
 refine Ev.rend ?_
 intro e152 he153
 have h154 : eget e152 2 = .bool false := envp he153 rfl rfl
 clear h38 h39 h40 h41 h42 h43
 refine Ev.kseqN ?_
 refine Ev.ex ?_
 refine Ev.kseqR ?_
 cases h
 exact Ev.kendR (resT h154 res0) rfl
/-! ### loop.example/g01263/spec.l07Ok (f61) -/
def spec_l07Ok_c1_Q (a1 : Book) (g : Bool) (q : Out) : Prop := q.1 = .nrm ∧ eget q.2.1 0 = .pt none [.int .i64 a1.Day, .sl none (a1.Cash.map (cI .i64)), .sl none (a1.Tallies.map Tally.c)] ∧ eget q.2.1 27 = .bool g
def spec_l07Ok_c3_Q (a1 : Book) (s1_1 : Int) (x63 : Tally) (g : Bool) (q : Out) : Prop := q.1 = .nrm ∧ eget q.2.1 0 = .pt none [.int .i64 a1.Day, .sl none (a1.Cash.map (cI .i64)), .sl none (a1.Tallies.map Tally.c)] ∧ eget q.2.1 3 = .int .i64 (a1.Cash.length : Int) ∧ eget q.2.1 4 = .int .i64 s1_1 ∧ eget q.2.1 5 = .pt none [.int .i64 x63.Debtor, .int .i64 x63.Holder, .int .i64 x63.Cut, .int .i64 x63.Amount, .int .i64 x63.Left] ∧ eget q.2.1 95 = .bool g
abbrev spec_l07Ok_b1_S := Int
abbrev spec_l07Ok_b1_R := Unit ⊕ Unit
def spec_l07Ok_b1_RS (a1 : Book) (s : spec_l07Ok_b1_S) (e : Env) (M : Mem) : Prop := eget e 0 = .pt none [.int .i64 a1.Day, .sl none (a1.Cash.map (cI .i64)), .sl none (a1.Tallies.map Tally.c)] ∧ eget e 3 = .int .i64 (a1.Cash.length : Int) ∧ eget e 4 = .int .i64 s
def spec_l07Ok_b1_RR (a1 : Book) (r : spec_l07Ok_b1_R) (x : Ex) (e : Env) (M : Mem) : Prop :=
  match r with
  | (.inl g) => x = .ret ∧ eget e 2 = .bool false
  | (.inr g) => x = .ext 0 ∧ True
noncomputable def spec_l07Ok_b1 (a1 : Book) : spec_l07Ok_b1_S → Option (spec_l07Ok_b1_S ⊕ spec_l07Ok_b1_R) := fun s1_1 =>
 if (decide (s1_1 < (a1.Tallies.length : Int))) = true then
  (rd a1.Tallies s1_1).bind fun x63 =>
  ((spec_l02Person (a1.Cash.length : Int) x63.Debtor).bind fun r72 =>
  if r72 = true then
   (spec_l02Person (a1.Cash.length : Int) x63.Holder).bind fun r75 =>
   if r75 = true then
    (spec_l00In x63.Cut 0 a1.Day).bind fun r78 =>
    if r78 = true then
     (spec_l00In x63.Amount 1 100000000).bind fun r81 =>
     if r81 = true then
      (spec_l00In x63.Left 0 x63.Amount).bind fun r84 =>
      some (!r84)
     else
      some true
    else
     some true
   else
    some true
  else
   some true).bind fun y122 =>
  if y122 = true then
   some (.inr (.inl ()))
  else
   if (x63.Debtor == x63.Holder) = true then
    if (x63.Left != 0) = true then
     some (.inr (.inl ()))
    else
     if (decide (s1_1 > 0)) = true then
      (rd a1.Tallies (IntKind.i64.wrap (s1_1 - 1))).bind fun x144 =>
      if (decide (x63.Cut < x144.Cut)) = true then
       some (.inr (.inl ()))
      else
       some (.inl (IntKind.i64.wrap (s1_1 + 1)))
     else
      some (.inl (IntKind.i64.wrap (s1_1 + 1)))
   else
    if (decide (s1_1 > 0)) = true then
     (rd a1.Tallies (IntKind.i64.wrap (s1_1 - 1))).bind fun x173 =>
     if (decide (x63.Cut < x173.Cut)) = true then
      some (.inr (.inl ()))
     else
      some (.inl (IntKind.i64.wrap (s1_1 + 1)))
    else
     some (.inl (IntKind.i64.wrap (s1_1 + 1)))
 else
  some (.inr (.inr ()))
theorem spec_l07Ok_b1_ok (a1 : Book) (s : spec_l07Ok_b1_S) (r : spec_l07Ok_b1_S ⊕ spec_l07Ok_b1_R) (h : spec_l07Ok_b1 a1 s = some r) (e : Env) (M : Mem) (hs : spec_l07Ok_b1_RS a1 s e M) : Ev (fun k => (f61_l5 (CN k) k (prune [0, 3, 4] e) M).bind fun q => some q) (bQ (spec_l07Ok_b1_RS a1) (spec_l07Ok_b1_RR a1) r) := by
 revert h hs
 revert s
 intro s1_1 h hs
 unfold spec_l07Ok_b1 at h
 obtain ⟨h50, h52, h54⟩ := hs
 generalize he49 : prune [0, 3, 4] e = e48
 have h51 := envp he49.symm rfl h50
 have h53 := envp he49.symm rfl h52
 have h55 := envp he49.symm rfl h54
 refine Ev.seq ?_
 refine Ev.seq ?_
 refine Ev.reg (fun _ => rfl) ?_
 refine Ev.nxk (mvO h55) ?_
 refine Ev.nxk (mvO h51) ?_
 refine Ev.nxk (ncP rfl) ?_
 refine Ev.nxk (faP rfl ⟨ble rfl, blt rfl⟩ rfl) ?_
 refine Ev.nxk (ldP rfl rfl) ?_
 refine Ev.nxk (lnS Try.underlying54 rfl) ?_
 refine Ev.nxk (bLss rfl rfl) ?_
 refine Ev.rend ?_
 intro e56 he57
 have h58 : eget e56 0 = .pt none [.int .i64 a1.Day, .sl none (a1.Cash.map (cI .i64)), .sl none (a1.Tallies.map Tally.c)] := envp he57 rfl h51
 have h59 : eget e56 3 = .int .i64 (a1.Cash.length : Int) := envp he57 rfl h53
 have h60 : eget e56 4 = .int .i64 s1_1 := envp he57 rfl h55
 have h61 : eget e56 39 = .bool (decide (s1_1 < (a1.Tallies.length : Int))) := envp he57 rfl rfl
 clear h51 h53 h55
 refine Ev.kseqN ?_
 rcases ite_some h with ⟨hb62, h⟩ | ⟨hb62, h⟩
 ·refine Ev.condT h61 hb62 ?_
  refine Ev.ex ?_
  refine Ev.kseqN ?_
  refine Ev.seq ?_
  refine Ev.blk ?_
  refine Ev.seq ?_
  refine Ev.reg (fun _ => rfl) ?_
  refine Ev.nxk (mvO h58) ?_
  refine Ev.nxk (ncP rfl) ?_
  refine Ev.nxk (faP rfl ⟨ble rfl, blt rfl⟩ rfl) ?_
  refine Ev.nxk (ldP rfl rfl) ?_
  refine Ev.nxk (mvO h60) ?_
  obtain ⟨x63, hx64, h⟩ := bind_some h
  refine Ev.nxk (ixS rfl rfl hx64 Tally.fl) ?_
  refine Ev.nxk (mvO rfl) ?_
  refine Ev.rend ?_
  intro e65 he66
  have h67 := envp (t := 0) he66 rfl h58
  have h68 := envp (t := 3) he66 rfl h59
  have h69 := envp (t := 4) he66 rfl h60
  have h70 : eget e65 5 = .pt none [.int .i64 x63.Debtor, .int .i64 x63.Holder, .int .i64 x63.Cut, .int .i64 x63.Amount, .int .i64 x63.Left] := envp he66 rfl rfl
  clear h58 h59 h60 h61
  refine Ev.kseqN ?_
  refine Ev.seq ?_
  refine Ev.seq ?_
  obtain ⟨r202, hr203, h⟩ := bind_some h
  refine Ev.cut (Q1 := spec_l07Ok_c3_Q a1 s1_1 x63 r202) (by
      have h := hr203
      refine Ev.regD (fun _ => rfl) ?_
      refine Ev.nfk (mvO h68) ?_
      refine Ev.nfk (mvO h70) ?_
      refine Ev.nfk (ncP rfl) ?_
      refine Ev.nfk (faP rfl ⟨ble rfl, blt rfl⟩ rfl) ?_
      refine Ev.nfk (ldP rfl rfl) ?_
      obtain ⟨r72, hx71, h⟩ := bind_some h
      refine Ev.nfc (Ev.call (v := .bool r72) rfl (cns rfl (cns rfl rfl)) rfl (spec_l02Person_ok (a1.Cash.length : Int) x63.Debtor _ hx71) (fun h => nomatch (show false = true from h))) ?_
      refine Ev.nfk (uNot rfl) ?_
      refine Ev.nfk (mvO rfl) ?_
      rcases ite_some h with ⟨hb73, h⟩ | ⟨hb73, h⟩
      ·refine Ev.nfk (guF rfl (congrArg Bool.not hb73) (mvO h68)) ?_
       refine Ev.nfk (guF rfl (congrArg Bool.not hb73) (mvO h70)) ?_
       refine Ev.nfk (guF rfl (congrArg Bool.not hb73) (ncP rfl)) ?_
       refine Ev.nfk (guF rfl (congrArg Bool.not hb73) (faP rfl ⟨ble rfl, blt rfl⟩ rfl)) ?_
       refine Ev.nfk (guF rfl (congrArg Bool.not hb73) (ldP rfl rfl)) ?_
       obtain ⟨r75, hx74, h⟩ := bind_some h
       refine Ev.nfc (Ev.guF rfl (congrArg Bool.not hb73) (Ev.call (v := .bool r75) rfl (cns rfl (cns rfl rfl)) rfl (spec_l02Person_ok (a1.Cash.length : Int) x63.Holder _ hx74) (fun h => nomatch (show false = true from h)))) ?_
       refine Ev.nfk (guF rfl (congrArg Bool.not hb73) (uNot rfl)) ?_
       refine Ev.nfk (pkF rfl (congrArg Bool.not hb73) rfl) ?_
       refine Ev.nfk (mvO rfl) ?_
       rcases ite_some h with ⟨hb76, h⟩ | ⟨hb76, h⟩
       ·refine Ev.nfk (guF rfl (congrArg Bool.not hb76) (mvO h70)) ?_
        refine Ev.nfk (guF rfl (congrArg Bool.not hb76) (ncP rfl)) ?_
        refine Ev.nfk (guF rfl (congrArg Bool.not hb76) (faP rfl ⟨ble rfl, blt rfl⟩ rfl)) ?_
        refine Ev.nfk (guF rfl (congrArg Bool.not hb76) (ldP rfl rfl)) ?_
        refine Ev.nfk (guF rfl (congrArg Bool.not hb76) (mvO h67)) ?_
        refine Ev.nfk (guF rfl (congrArg Bool.not hb76) (ncP rfl)) ?_
        refine Ev.nfk (guF rfl (congrArg Bool.not hb76) (faP rfl ⟨ble rfl, blt rfl⟩ rfl)) ?_
        refine Ev.nfk (guF rfl (congrArg Bool.not hb76) (ldP rfl rfl)) ?_
        obtain ⟨r78, hx77, h⟩ := bind_some h
        refine Ev.nfc (Ev.guF rfl (congrArg Bool.not hb76) (Ev.call (v := .bool r78) rfl (cns rfl (cns rfl (cns rfl rfl))) rfl (spec_l00In_ok x63.Cut 0 a1.Day _ hx77) (fun h => nomatch (show false = true from h)))) ?_
        refine Ev.nfk (guF rfl (congrArg Bool.not hb76) (uNot rfl)) ?_
        refine Ev.nfk (pkF rfl (congrArg Bool.not hb76) rfl) ?_
        refine Ev.nfk (mvO rfl) ?_
        rcases ite_some h with ⟨hb79, h⟩ | ⟨hb79, h⟩
        ·refine Ev.nfk (guF rfl (congrArg Bool.not hb79) (mvO h70)) ?_
         refine Ev.nfk (guF rfl (congrArg Bool.not hb79) (ncP rfl)) ?_
         refine Ev.nfk (guF rfl (congrArg Bool.not hb79) (faP rfl ⟨ble rfl, blt rfl⟩ rfl)) ?_
         refine Ev.nfk (guF rfl (congrArg Bool.not hb79) (ldP rfl rfl)) ?_
         obtain ⟨r81, hx80, h⟩ := bind_some h
         refine Ev.nfc (Ev.guF rfl (congrArg Bool.not hb79) (Ev.call (v := .bool r81) rfl (cns rfl (cns rfl (cns rfl rfl))) rfl (spec_l00In_ok x63.Amount 1 100000000 _ hx80) (fun h => nomatch (show false = true from h)))) ?_
         refine Ev.nfk (guF rfl (congrArg Bool.not hb79) (uNot rfl)) ?_
         refine Ev.nfk (pkF rfl (congrArg Bool.not hb79) rfl) ?_
         refine Ev.nfk (mvO rfl) ?_
         rcases ite_some h with ⟨hb82, h⟩ | ⟨hb82, h⟩
         ·refine Ev.nfk (guF rfl (congrArg Bool.not hb82) (mvO h70)) ?_
          refine Ev.nfk (guF rfl (congrArg Bool.not hb82) (ncP rfl)) ?_
          refine Ev.nfk (guF rfl (congrArg Bool.not hb82) (faP rfl ⟨ble rfl, blt rfl⟩ rfl)) ?_
          refine Ev.nfk (guF rfl (congrArg Bool.not hb82) (ldP rfl rfl)) ?_
          refine Ev.nfk (guF rfl (congrArg Bool.not hb82) (mvO h70)) ?_
          refine Ev.nfk (guF rfl (congrArg Bool.not hb82) (ncP rfl)) ?_
          refine Ev.nfk (guF rfl (congrArg Bool.not hb82) (faP rfl ⟨ble rfl, blt rfl⟩ rfl)) ?_
          refine Ev.nfk (guF rfl (congrArg Bool.not hb82) (ldP rfl rfl)) ?_
          obtain ⟨r84, hx83, h⟩ := bind_some h
          refine Ev.nfc (Ev.guF rfl (congrArg Bool.not hb82) (Ev.call (v := .bool r84) rfl (cns rfl (cns rfl (cns rfl rfl))) rfl (spec_l00In_ok x63.Left 0 x63.Amount _ hx83) (fun h => nomatch (show false = true from h)))) ?_
          refine Ev.nfk (guF rfl (congrArg Bool.not hb82) (uNot rfl)) ?_
          refine Ev.nfk (pkF rfl (congrArg Bool.not hb82) rfl) ?_
          refine Ev.fend0 ?_
          refine Ev.rend ?_
          intro e85 he86
          have h87 := envp (t := 0) he86 rfl h67
          have h88 := envp (t := 3) he86 rfl h68
          have h89 := envp (t := 4) he86 rfl h69
          have h90 := envp (t := 5) he86 rfl h70
          have h91 : eget e85 95 = .bool (!r84) := envp he86 rfl rfl
          clear h67 h68 h69 h70
          cases h
          exact Ev.kid (show spec_l07Ok_c3_Q a1 s1_1 x63 _ _ from (And.intro rfl (And.intro h87 (And.intro h88 (And.intro h89 (And.intro h90 h91))))))
         refine Ev.nfk (gsF rfl (congrArg Bool.not hb82)) ?_
         refine Ev.nfk (gsF rfl (congrArg Bool.not hb82)) ?_
         refine Ev.nfk (gsF rfl (congrArg Bool.not hb82)) ?_
         refine Ev.nfk (gsF rfl (congrArg Bool.not hb82)) ?_
         refine Ev.nfk (gsF rfl (congrArg Bool.not hb82)) ?_
         refine Ev.nfk (gsF rfl (congrArg Bool.not hb82)) ?_
         refine Ev.nfk (gsF rfl (congrArg Bool.not hb82)) ?_
         refine Ev.nfk (gsF rfl (congrArg Bool.not hb82)) ?_
         refine Ev.nfc (Ev.gsF rfl (congrArg Bool.not hb82)) ?_
         refine Ev.nfk (gsF rfl (congrArg Bool.not hb82)) ?_
         refine Ev.nfk (pkT rfl (congrArg Bool.not hb82) rfl) ?_
         refine Ev.fend0 ?_
         refine Ev.rend ?_
         intro e92 he93
         have h94 := envp (t := 0) he93 rfl h67
         have h95 := envp (t := 3) he93 rfl h68
         have h96 := envp (t := 4) he93 rfl h69
         have h97 := envp (t := 5) he93 rfl h70
         have h98 : eget e92 95 = .bool true := envp he93 rfl rfl
         clear h67 h68 h69 h70
         cases h
         exact Ev.kid (show spec_l07Ok_c3_Q a1 s1_1 x63 _ _ from (And.intro rfl (And.intro h94 (And.intro h95 (And.intro h96 (And.intro h97 h98))))))
        refine Ev.nfk (gsF rfl (congrArg Bool.not hb79)) ?_
        refine Ev.nfk (gsF rfl (congrArg Bool.not hb79)) ?_
        refine Ev.nfk (gsF rfl (congrArg Bool.not hb79)) ?_
        refine Ev.nfk (gsF rfl (congrArg Bool.not hb79)) ?_
        refine Ev.nfc (Ev.gsF rfl (congrArg Bool.not hb79)) ?_
        refine Ev.nfk (gsF rfl (congrArg Bool.not hb79)) ?_
        refine Ev.nfk (pkT rfl (congrArg Bool.not hb79) rfl) ?_
        refine Ev.nfk (mvO rfl) ?_
        refine Ev.nfk (gsF rfl rfl) ?_
        refine Ev.nfk (gsF rfl rfl) ?_
        refine Ev.nfk (gsF rfl rfl) ?_
        refine Ev.nfk (gsF rfl rfl) ?_
        refine Ev.nfk (gsF rfl rfl) ?_
        refine Ev.nfk (gsF rfl rfl) ?_
        refine Ev.nfk (gsF rfl rfl) ?_
        refine Ev.nfk (gsF rfl rfl) ?_
        refine Ev.nfc (Ev.gsF rfl rfl) ?_
        refine Ev.nfk (gsF rfl rfl) ?_
        refine Ev.nfk (pkT rfl rfl rfl) ?_
        refine Ev.fend0 ?_
        refine Ev.rend ?_
        intro e99 he100
        have h101 := envp (t := 0) he100 rfl h67
        have h102 := envp (t := 3) he100 rfl h68
        have h103 := envp (t := 4) he100 rfl h69
        have h104 := envp (t := 5) he100 rfl h70
        have h105 : eget e99 95 = .bool true := envp he100 rfl rfl
        clear h67 h68 h69 h70
        cases h
        exact Ev.kid (show spec_l07Ok_c3_Q a1 s1_1 x63 _ _ from (And.intro rfl (And.intro h101 (And.intro h102 (And.intro h103 (And.intro h104 h105))))))
       refine Ev.nfk (gsF rfl (congrArg Bool.not hb76)) ?_
       refine Ev.nfk (gsF rfl (congrArg Bool.not hb76)) ?_
       refine Ev.nfk (gsF rfl (congrArg Bool.not hb76)) ?_
       refine Ev.nfk (gsF rfl (congrArg Bool.not hb76)) ?_
       refine Ev.nfk (gsF rfl (congrArg Bool.not hb76)) ?_
       refine Ev.nfk (gsF rfl (congrArg Bool.not hb76)) ?_
       refine Ev.nfk (gsF rfl (congrArg Bool.not hb76)) ?_
       refine Ev.nfk (gsF rfl (congrArg Bool.not hb76)) ?_
       refine Ev.nfc (Ev.gsF rfl (congrArg Bool.not hb76)) ?_
       refine Ev.nfk (gsF rfl (congrArg Bool.not hb76)) ?_
       refine Ev.nfk (pkT rfl (congrArg Bool.not hb76) rfl) ?_
       refine Ev.nfk (mvO rfl) ?_
       refine Ev.nfk (gsF rfl rfl) ?_
       refine Ev.nfk (gsF rfl rfl) ?_
       refine Ev.nfk (gsF rfl rfl) ?_
       refine Ev.nfk (gsF rfl rfl) ?_
       refine Ev.nfc (Ev.gsF rfl rfl) ?_
       refine Ev.nfk (gsF rfl rfl) ?_
       refine Ev.nfk (pkT rfl rfl rfl) ?_
       refine Ev.nfk (mvO rfl) ?_
       refine Ev.nfk (gsF rfl rfl) ?_
       refine Ev.nfk (gsF rfl rfl) ?_
       refine Ev.nfk (gsF rfl rfl) ?_
       refine Ev.nfk (gsF rfl rfl) ?_
       refine Ev.nfk (gsF rfl rfl) ?_
       refine Ev.nfk (gsF rfl rfl) ?_
       refine Ev.nfk (gsF rfl rfl) ?_
       refine Ev.nfk (gsF rfl rfl) ?_
       refine Ev.nfc (Ev.gsF rfl rfl) ?_
       refine Ev.nfk (gsF rfl rfl) ?_
       refine Ev.nfk (pkT rfl rfl rfl) ?_
       refine Ev.fend0 ?_
       refine Ev.rend ?_
       intro e106 he107
       have h108 := envp (t := 0) he107 rfl h67
       have h109 := envp (t := 3) he107 rfl h68
       have h110 := envp (t := 4) he107 rfl h69
       have h111 := envp (t := 5) he107 rfl h70
       have h112 : eget e106 95 = .bool true := envp he107 rfl rfl
       clear h67 h68 h69 h70
       cases h
       exact Ev.kid (show spec_l07Ok_c3_Q a1 s1_1 x63 _ _ from (And.intro rfl (And.intro h108 (And.intro h109 (And.intro h110 (And.intro h111 h112))))))
      refine Ev.nfk (gsF rfl (congrArg Bool.not hb73)) ?_
      refine Ev.nfk (gsF rfl (congrArg Bool.not hb73)) ?_
      refine Ev.nfk (gsF rfl (congrArg Bool.not hb73)) ?_
      refine Ev.nfk (gsF rfl (congrArg Bool.not hb73)) ?_
      refine Ev.nfk (gsF rfl (congrArg Bool.not hb73)) ?_
      refine Ev.nfc (Ev.gsF rfl (congrArg Bool.not hb73)) ?_
      refine Ev.nfk (gsF rfl (congrArg Bool.not hb73)) ?_
      refine Ev.nfk (pkT rfl (congrArg Bool.not hb73) rfl) ?_
      refine Ev.nfk (mvO rfl) ?_
      refine Ev.nfk (gsF rfl rfl) ?_
      refine Ev.nfk (gsF rfl rfl) ?_
      refine Ev.nfk (gsF rfl rfl) ?_
      refine Ev.nfk (gsF rfl rfl) ?_
      refine Ev.nfk (gsF rfl rfl) ?_
      refine Ev.nfk (gsF rfl rfl) ?_
      refine Ev.nfk (gsF rfl rfl) ?_
      refine Ev.nfk (gsF rfl rfl) ?_
      refine Ev.nfc (Ev.gsF rfl rfl) ?_
      refine Ev.nfk (gsF rfl rfl) ?_
      refine Ev.nfk (pkT rfl rfl rfl) ?_
      refine Ev.nfk (mvO rfl) ?_
      refine Ev.nfk (gsF rfl rfl) ?_
      refine Ev.nfk (gsF rfl rfl) ?_
      refine Ev.nfk (gsF rfl rfl) ?_
      refine Ev.nfk (gsF rfl rfl) ?_
      refine Ev.nfc (Ev.gsF rfl rfl) ?_
      refine Ev.nfk (gsF rfl rfl) ?_
      refine Ev.nfk (pkT rfl rfl rfl) ?_
      refine Ev.nfk (mvO rfl) ?_
      refine Ev.nfk (gsF rfl rfl) ?_
      refine Ev.nfk (gsF rfl rfl) ?_
      refine Ev.nfk (gsF rfl rfl) ?_
      refine Ev.nfk (gsF rfl rfl) ?_
      refine Ev.nfk (gsF rfl rfl) ?_
      refine Ev.nfk (gsF rfl rfl) ?_
      refine Ev.nfk (gsF rfl rfl) ?_
      refine Ev.nfk (gsF rfl rfl) ?_
      refine Ev.nfc (Ev.gsF rfl rfl) ?_
      refine Ev.nfk (gsF rfl rfl) ?_
      refine Ev.nfk (pkT rfl rfl rfl) ?_
      refine Ev.fend0 ?_
      refine Ev.rend ?_
      intro e113 he114
      have h115 := envp (t := 0) he114 rfl h67
      have h116 := envp (t := 3) he114 rfl h68
      have h117 := envp (t := 4) he114 rfl h69
      have h118 := envp (t := 5) he114 rfl h70
      have h119 : eget e113 95 = .bool true := envp he114 rfl rfl
      clear h67 h68 h69 h70
      cases h
      exact Ev.kid (show spec_l07Ok_c3_Q a1 s1_1 x63 _ _ from (And.intro rfl (And.intro h115 (And.intro h116 (And.intro h117 (And.intro h118 h119))))))) ?_
  revert h hr203
  revert r202
  intro y122 hr203 h
  intro x e120 M121 hq201
  obtain ⟨rfl, h123, h124, h125, h126, h127⟩ := hq201
  refine Ev.kseqN ?_
  rcases ite_some h with ⟨hb128, h⟩ | ⟨hb128, h⟩
  ·refine Ev.condT h127 hb128 ?_
   refine Ev.seq ?_
   refine Ev.reg (fun _ => rfl) ?_
   refine Ev.nxk (mvO rfl) ?_
   refine Ev.rend ?_
   intro e129 he130
   have h131 : eget e129 2 = .bool false := envp he130 rfl rfl
   clear h123 h124 h125 h126 h127
   refine Ev.kseqN ?_
   refine Ev.ex ?_
   refine Ev.kseqR ?_
   refine Ev.kblkR ?_
   refine Ev.kseqR ?_
   cases h
   exact Ev.kid (bQ_x (RS := (spec_l07Ok_b1_RS a1)) (RR := (spec_l07Ok_b1_RR a1)) (by intro h; cases h) (And.intro rfl h131))
  refine Ev.condF h127 hb128 ?_
  refine Ev.ex ?_
  refine Ev.kseqN ?_
  refine Ev.seq ?_
  refine Ev.regD (fun _ => rfl) ?_
  refine Ev.nfk (mvO h126) ?_
  refine Ev.nfk (ncP rfl) ?_
  refine Ev.nfk (faP rfl ⟨ble rfl, blt rfl⟩ rfl) ?_
  refine Ev.nfk (ldP rfl rfl) ?_
  refine Ev.nfk (mvO h126) ?_
  refine Ev.nfk (ncP rfl) ?_
  refine Ev.nfk (faP rfl ⟨ble rfl, blt rfl⟩ rfl) ?_
  refine Ev.nfk (ldP rfl rfl) ?_
  refine Ev.nfk (bEql rfl rfl) ?_
  refine Ev.nfk (mvO rfl) ?_
  rcases ite_some h with ⟨hb132, h⟩ | ⟨hb132, h⟩
  ·refine Ev.nfk (guT rfl hb132 (mvO h126)) ?_
   refine Ev.nfk (guT rfl hb132 (ncP rfl)) ?_
   refine Ev.nfk (guT rfl hb132 (faP rfl ⟨ble rfl, blt rfl⟩ rfl)) ?_
   refine Ev.nfk (guT rfl hb132 (ldP rfl rfl)) ?_
   refine Ev.nfk (guT rfl hb132 (bNeq rfl rfl)) ?_
   refine Ev.nfk (pkT rfl hb132 rfl) ?_
   refine Ev.nfk (mvO rfl) ?_
   rcases ite_some h with ⟨hb133, h⟩ | ⟨hb133, h⟩
   ·refine Ev.nfk (gsF rfl hb133) ?_
    refine Ev.nfk (gsF rfl hb133) ?_
    refine Ev.nfk (gsF rfl hb133) ?_
    refine Ev.nfk (gsU rfl) ?_
    refine Ev.nfk (gsU rfl) ?_
    refine Ev.nfk (gsU rfl) ?_
    refine Ev.nfk (gsU rfl) ?_
    refine Ev.nfk (gsU rfl) ?_
    refine Ev.nfk (gsU rfl) ?_
    refine Ev.nfk (gsU rfl) ?_
    refine Ev.nfk (gsU rfl) ?_
    refine Ev.nfk (gsU rfl) ?_
    refine Ev.nfk (gsU rfl) ?_
    refine Ev.nfk (gsU rfl) ?_
    refine Ev.nfk (gsU rfl) ?_
    refine Ev.nfk (gsU rfl) ?_
    refine Ev.nfk (gsU rfl) ?_
    refine Ev.nfk (gsF rfl hb133) ?_
    refine Ev.nfk (pkT rfl hb133 rfl) ?_
    refine Ev.fend0 ?_
    refine Ev.rend ?_
    intro e134 he135
    have h136 : eget e134 0 = .pt none [.int .i64 a1.Day, .sl none (a1.Cash.map (cI .i64)), .sl none (a1.Tallies.map Tally.c)] := envp he135 rfl h123
    have h137 : eget e134 3 = .int .i64 (a1.Cash.length : Int) := envp he135 rfl h124
    have h138 : eget e134 4 = .int .i64 s1_1 := envp he135 rfl h125
    have h139 : eget e134 131 = .bool true := envp he135 rfl rfl
    clear h123 h124 h125 h126 h127
    refine Ev.kseqN ?_
    refine Ev.condT h139 rfl ?_
    refine Ev.seq ?_
    refine Ev.reg (fun _ => rfl) ?_
    refine Ev.nxk (mvO rfl) ?_
    refine Ev.rend ?_
    intro e140 he141
    have h142 : eget e140 2 = .bool false := envp he141 rfl rfl
    clear h136 h137 h138 h139
    refine Ev.kseqN ?_
    refine Ev.ex ?_
    refine Ev.kblkR ?_
    refine Ev.kseqR ?_
    cases h
    exact Ev.kid (bQ_x (RS := (spec_l07Ok_b1_RS a1)) (RR := (spec_l07Ok_b1_RR a1)) (by intro h; cases h) (And.intro rfl h142))
   refine Ev.nfk (guF rfl hb133 (mvO h125)) ?_
   refine Ev.nfk (guF rfl hb133 (bGtr rfl rfl)) ?_
   refine Ev.nfk (guF rfl hb133 (mvO rfl)) ?_
   rcases ite_some h with ⟨hb143, h⟩ | ⟨hb143, h⟩
   ·refine Ev.nfk (guT rfl hb143 (mvO h126)) ?_
    refine Ev.nfk (guT rfl hb143 (ncP rfl)) ?_
    refine Ev.nfk (guT rfl hb143 (faP rfl ⟨ble rfl, blt rfl⟩ rfl)) ?_
    refine Ev.nfk (guT rfl hb143 (ldP rfl rfl)) ?_
    refine Ev.nfk (guT rfl hb143 (mvO h123)) ?_
    refine Ev.nfk (guT rfl hb143 (ncP rfl)) ?_
    refine Ev.nfk (guT rfl hb143 (faP rfl ⟨ble rfl, blt rfl⟩ rfl)) ?_
    refine Ev.nfk (guT rfl hb143 (ldP rfl rfl)) ?_
    refine Ev.nfk (guT rfl hb143 (mvO h125)) ?_
    refine Ev.nfk (guT rfl hb143 (bSub rfl rfl)) ?_
    obtain ⟨x144, hx145, h⟩ := bind_some h
    refine Ev.nfk (guT rfl hb143 (ixS rfl rfl hx145 Tally.fl)) ?_
    refine Ev.nfk (guT rfl hb143 (faP rfl ⟨ble rfl, blt rfl⟩ rfl)) ?_
    refine Ev.nfk (guT rfl hb143 (ldP rfl rfl)) ?_
    refine Ev.nfk (guT rfl hb143 (bLss rfl rfl)) ?_
    refine Ev.nfk (guF rfl hb133 (pkT rfl hb143 rfl)) ?_
    refine Ev.nfk (pkF rfl hb133 rfl) ?_
    refine Ev.fend0 ?_
    refine Ev.rend ?_
    intro e146 he147
    have h148 : eget e146 0 = .pt none [.int .i64 a1.Day, .sl none (a1.Cash.map (cI .i64)), .sl none (a1.Tallies.map Tally.c)] := envp he147 rfl h123
    have h149 : eget e146 3 = .int .i64 (a1.Cash.length : Int) := envp he147 rfl h124
    have h150 : eget e146 4 = .int .i64 s1_1 := envp he147 rfl h125
    have h151 : eget e146 131 = .bool (decide (x63.Cut < x144.Cut)) := envp he147 rfl rfl
    clear h123 h124 h125 h126 h127
    refine Ev.kseqN ?_
    rcases ite_some h with ⟨hb152, h⟩ | ⟨hb152, h⟩
    ·refine Ev.condT h151 hb152 ?_
     refine Ev.seq ?_
     refine Ev.reg (fun _ => rfl) ?_
     refine Ev.nxk (mvO rfl) ?_
     refine Ev.rend ?_
     intro e153 he154
     have h155 : eget e153 2 = .bool false := envp he154 rfl rfl
     clear h148 h149 h150 h151
     refine Ev.kseqN ?_
     refine Ev.ex ?_
     refine Ev.kblkR ?_
     refine Ev.kseqR ?_
     cases h
     exact Ev.kid (bQ_x (RS := (spec_l07Ok_b1_RS a1)) (RR := (spec_l07Ok_b1_RR a1)) (by intro h; cases h) (And.intro rfl h155))
    refine Ev.condF h151 hb152 ?_
    refine Ev.ex ?_
    refine Ev.kblkN ?_
    refine Ev.kseqN ?_
    refine Ev.reg (fun _ => rfl) ?_
    refine Ev.nxk (mvO h150) ?_
    refine Ev.nxk (bAdd rfl rfl) ?_
    refine Ev.nxk (mvO rfl) ?_
    refine Ev.rend ?_
    intro e156 he157
    have h158 := envp (t := 0) he157 rfl h148
    have h159 := envp (t := 3) he157 rfl h149
    have h160 : eget e156 4 = .int .i64 (IntKind.i64.wrap (s1_1 + 1)) := envp he157 rfl rfl
    clear h148 h149 h151
    cases h
    exact Ev.kid (bQ_n (RS := (spec_l07Ok_b1_RS a1)) (RR := (spec_l07Ok_b1_RR a1)) (And.intro h158 (And.intro h159 h160)))
   refine Ev.nfk (gsT rfl hb143) ?_
   refine Ev.nfk (gsT rfl hb143) ?_
   refine Ev.nfk (gsT rfl hb143) ?_
   refine Ev.nfk (gsT rfl hb143) ?_
   refine Ev.nfk (gsT rfl hb143) ?_
   refine Ev.nfk (gsT rfl hb143) ?_
   refine Ev.nfk (gsT rfl hb143) ?_
   refine Ev.nfk (gsT rfl hb143) ?_
   refine Ev.nfk (gsT rfl hb143) ?_
   refine Ev.nfk (gsT rfl hb143) ?_
   refine Ev.nfk (gsT rfl hb143) ?_
   refine Ev.nfk (gsT rfl hb143) ?_
   refine Ev.nfk (gsT rfl hb143) ?_
   refine Ev.nfk (gsT rfl hb143) ?_
   refine Ev.nfk (guF rfl hb133 (pkF rfl hb143 rfl)) ?_
   refine Ev.nfk (pkF rfl hb133 rfl) ?_
   refine Ev.fend0 ?_
   refine Ev.rend ?_
   intro e161 he162
   have h163 : eget e161 0 = .pt none [.int .i64 a1.Day, .sl none (a1.Cash.map (cI .i64)), .sl none (a1.Tallies.map Tally.c)] := envp he162 rfl h123
   have h164 : eget e161 3 = .int .i64 (a1.Cash.length : Int) := envp he162 rfl h124
   have h165 : eget e161 4 = .int .i64 s1_1 := envp he162 rfl h125
   have h166 : eget e161 131 = .bool false := envp he162 rfl rfl
   clear h123 h124 h125 h126 h127
   refine Ev.kseqN ?_
   refine Ev.condF h166 rfl ?_
   refine Ev.ex ?_
   refine Ev.kblkN ?_
   refine Ev.kseqN ?_
   refine Ev.reg (fun _ => rfl) ?_
   refine Ev.nxk (mvO h165) ?_
   refine Ev.nxk (bAdd rfl rfl) ?_
   refine Ev.nxk (mvO rfl) ?_
   refine Ev.rend ?_
   intro e167 he168
   have h169 := envp (t := 0) he168 rfl h163
   have h170 := envp (t := 3) he168 rfl h164
   have h171 : eget e167 4 = .int .i64 (IntKind.i64.wrap (s1_1 + 1)) := envp he168 rfl rfl
   clear h163 h164 h166
   cases h
   exact Ev.kid (bQ_n (RS := (spec_l07Ok_b1_RS a1)) (RR := (spec_l07Ok_b1_RR a1)) (And.intro h169 (And.intro h170 h171)))
  refine Ev.nfk (gsT rfl hb132) ?_
  refine Ev.nfk (gsT rfl hb132) ?_
  refine Ev.nfk (gsT rfl hb132) ?_
  refine Ev.nfk (gsT rfl hb132) ?_
  refine Ev.nfk (gsT rfl hb132) ?_
  refine Ev.nfk (pkF rfl hb132 rfl) ?_
  refine Ev.nfk (mvO rfl) ?_
  refine Ev.nfk (guF rfl rfl (mvO h125)) ?_
  refine Ev.nfk (guF rfl rfl (bGtr rfl rfl)) ?_
  refine Ev.nfk (guF rfl rfl (mvO rfl)) ?_
  rcases ite_some h with ⟨hb172, h⟩ | ⟨hb172, h⟩
  ·refine Ev.nfk (guT rfl hb172 (mvO h126)) ?_
   refine Ev.nfk (guT rfl hb172 (ncP rfl)) ?_
   refine Ev.nfk (guT rfl hb172 (faP rfl ⟨ble rfl, blt rfl⟩ rfl)) ?_
   refine Ev.nfk (guT rfl hb172 (ldP rfl rfl)) ?_
   refine Ev.nfk (guT rfl hb172 (mvO h123)) ?_
   refine Ev.nfk (guT rfl hb172 (ncP rfl)) ?_
   refine Ev.nfk (guT rfl hb172 (faP rfl ⟨ble rfl, blt rfl⟩ rfl)) ?_
   refine Ev.nfk (guT rfl hb172 (ldP rfl rfl)) ?_
   refine Ev.nfk (guT rfl hb172 (mvO h125)) ?_
   refine Ev.nfk (guT rfl hb172 (bSub rfl rfl)) ?_
   obtain ⟨x173, hx174, h⟩ := bind_some h
   refine Ev.nfk (guT rfl hb172 (ixS rfl rfl hx174 Tally.fl)) ?_
   refine Ev.nfk (guT rfl hb172 (faP rfl ⟨ble rfl, blt rfl⟩ rfl)) ?_
   refine Ev.nfk (guT rfl hb172 (ldP rfl rfl)) ?_
   refine Ev.nfk (guT rfl hb172 (bLss rfl rfl)) ?_
   refine Ev.nfk (guF rfl rfl (pkT rfl hb172 rfl)) ?_
   refine Ev.nfk (pkF rfl rfl rfl) ?_
   refine Ev.fend0 ?_
   refine Ev.rend ?_
   intro e175 he176
   have h177 : eget e175 0 = .pt none [.int .i64 a1.Day, .sl none (a1.Cash.map (cI .i64)), .sl none (a1.Tallies.map Tally.c)] := envp he176 rfl h123
   have h178 : eget e175 3 = .int .i64 (a1.Cash.length : Int) := envp he176 rfl h124
   have h179 : eget e175 4 = .int .i64 s1_1 := envp he176 rfl h125
   have h180 : eget e175 131 = .bool (decide (x63.Cut < x173.Cut)) := envp he176 rfl rfl
   clear h123 h124 h125 h126 h127
   refine Ev.kseqN ?_
   rcases ite_some h with ⟨hb181, h⟩ | ⟨hb181, h⟩
   ·refine Ev.condT h180 hb181 ?_
    refine Ev.seq ?_
    refine Ev.reg (fun _ => rfl) ?_
    refine Ev.nxk (mvO rfl) ?_
    refine Ev.rend ?_
    intro e182 he183
    have h184 : eget e182 2 = .bool false := envp he183 rfl rfl
    clear h177 h178 h179 h180
    refine Ev.kseqN ?_
    refine Ev.ex ?_
    refine Ev.kblkR ?_
    refine Ev.kseqR ?_
    cases h
    exact Ev.kid (bQ_x (RS := (spec_l07Ok_b1_RS a1)) (RR := (spec_l07Ok_b1_RR a1)) (by intro h; cases h) (And.intro rfl h184))
   refine Ev.condF h180 hb181 ?_
   refine Ev.ex ?_
   refine Ev.kblkN ?_
   refine Ev.kseqN ?_
   refine Ev.reg (fun _ => rfl) ?_
   refine Ev.nxk (mvO h179) ?_
   refine Ev.nxk (bAdd rfl rfl) ?_
   refine Ev.nxk (mvO rfl) ?_
   refine Ev.rend ?_
   intro e185 he186
   have h187 := envp (t := 0) he186 rfl h177
   have h188 := envp (t := 3) he186 rfl h178
   have h189 : eget e185 4 = .int .i64 (IntKind.i64.wrap (s1_1 + 1)) := envp he186 rfl rfl
   clear h177 h178 h180
   cases h
   exact Ev.kid (bQ_n (RS := (spec_l07Ok_b1_RS a1)) (RR := (spec_l07Ok_b1_RR a1)) (And.intro h187 (And.intro h188 h189)))
  refine Ev.nfk (gsT rfl hb172) ?_
  refine Ev.nfk (gsT rfl hb172) ?_
  refine Ev.nfk (gsT rfl hb172) ?_
  refine Ev.nfk (gsT rfl hb172) ?_
  refine Ev.nfk (gsT rfl hb172) ?_
  refine Ev.nfk (gsT rfl hb172) ?_
  refine Ev.nfk (gsT rfl hb172) ?_
  refine Ev.nfk (gsT rfl hb172) ?_
  refine Ev.nfk (gsT rfl hb172) ?_
  refine Ev.nfk (gsT rfl hb172) ?_
  refine Ev.nfk (gsT rfl hb172) ?_
  refine Ev.nfk (gsT rfl hb172) ?_
  refine Ev.nfk (gsT rfl hb172) ?_
  refine Ev.nfk (gsT rfl hb172) ?_
  refine Ev.nfk (guF rfl rfl (pkF rfl hb172 rfl)) ?_
  refine Ev.nfk (pkF rfl rfl rfl) ?_
  refine Ev.fend0 ?_
  refine Ev.rend ?_
  intro e190 he191
  have h192 : eget e190 0 = .pt none [.int .i64 a1.Day, .sl none (a1.Cash.map (cI .i64)), .sl none (a1.Tallies.map Tally.c)] := envp he191 rfl h123
  have h193 : eget e190 3 = .int .i64 (a1.Cash.length : Int) := envp he191 rfl h124
  have h194 : eget e190 4 = .int .i64 s1_1 := envp he191 rfl h125
  have h195 : eget e190 131 = .bool false := envp he191 rfl rfl
  clear h123 h124 h125 h126 h127
  refine Ev.kseqN ?_
  refine Ev.condF h195 rfl ?_
  refine Ev.ex ?_
  refine Ev.kblkN ?_
  refine Ev.kseqN ?_
  refine Ev.reg (fun _ => rfl) ?_
  refine Ev.nxk (mvO h194) ?_
  refine Ev.nxk (bAdd rfl rfl) ?_
  refine Ev.nxk (mvO rfl) ?_
  refine Ev.rend ?_
  intro e196 he197
  have h198 := envp (t := 0) he197 rfl h192
  have h199 := envp (t := 3) he197 rfl h193
  have h200 : eget e196 4 = .int .i64 (IntKind.i64.wrap (s1_1 + 1)) := envp he197 rfl rfl
  clear h192 h193 h195
  cases h
  exact Ev.kid (bQ_n (RS := (spec_l07Ok_b1_RS a1)) (RR := (spec_l07Ok_b1_RR a1)) (And.intro h198 (And.intro h199 h200)))
 refine Ev.condF h61 hb62 ?_
 refine Ev.ex ?_
 refine Ev.kseqE ?_
 cases h
 exact Ev.kid (bQ_x (RS := (spec_l07Ok_b1_RS a1)) (RR := (spec_l07Ok_b1_RR a1)) (by intro h; cases h) (And.intro rfl trivial))
noncomputable def spec_l07Ok (a1 : Book) : Option Bool :=
 ((spec_l07Day a1.Day).bind fun r5 =>
 if r5 = true then
  (spec_l07Cash a1.Cash).bind fun r8 =>
  if r8 = true then
   some (decide ((a1.Tallies.length : Int) > 40))
  else
   some true
 else
  some true).bind fun y24 =>
 if y24 = true then
  some false
 else
  (Lw (spec_l07Ok_b1 a1) 0).bind fun r => match r with
  | (.inl _) =>
   some false
  | (.inr _) =>
   some true
def spec_l07Ok_enc (r : Bool) : AV := .bool r
theorem spec_l07Ok_ok (a1 : Book) (r : Bool) (h : spec_l07Ok a1 = some r) : Ev (fun k => CN k 61 [.pt none [.int .i64 a1.Day, .sl none (a1.Cash.map (cI .i64)), .sl none (a1.Tallies.map Tally.c)]] []) (fun p => rRes p.2 p.1 = spec_l07Ok_enc r) := by
 unfold spec_l07Ok at h
 refine Ev.enter (F := fun k => f61 (CN k) k) (fun k => callN_eq rfl Try.func61 rfl rfl rfl (by decide +kernel) (f61_eq _ _)) ?_
 refine Ev.seq ?_
 refine Ev.reg (fun _ => rfl) ?_
 refine Ev.nxk (mvO rfl) ?_
 refine Ev.rend ?_
 intro e1 he2
 have h3 : eget e1 0 = .pt none [.int .i64 a1.Day, .sl none (a1.Cash.map (cI .i64)), .sl none (a1.Tallies.map Tally.c)] := envp he2 rfl rfl
 refine Ev.kseqN ?_
 refine Ev.seq ?_
 refine Ev.seq ?_
 obtain ⟨r216, hr217, h⟩ := bind_some h
 refine Ev.cut (Q1 := spec_l07Ok_c1_Q a1 r216) (by
     have h := hr217
     refine Ev.reg (fun _ => rfl) ?_
     refine Ev.nxk (mvO h3) ?_
     refine Ev.nxk (ncP rfl) ?_
     refine Ev.nxk (faP rfl ⟨ble rfl, blt rfl⟩ rfl) ?_
     refine Ev.nxk (ldP rfl rfl) ?_
     obtain ⟨r5, hx4, h⟩ := bind_some h
     refine Ev.nxck (Ev.call (v := .bool r5) rfl (cns rfl rfl) rfl (spec_l07Day_ok a1.Day _ hx4) (fun h => nomatch (show false = true from h))) ?_
     refine Ev.nxk (uNot rfl) ?_
     refine Ev.nxk (mvO rfl) ?_
     rcases ite_some h with ⟨hb6, h⟩ | ⟨hb6, h⟩
     ·refine Ev.nxk (guF rfl (congrArg Bool.not hb6) (mvO h3)) ?_
      refine Ev.nxk (guF rfl (congrArg Bool.not hb6) (ncP rfl)) ?_
      refine Ev.nxk (guF rfl (congrArg Bool.not hb6) (faP rfl ⟨ble rfl, blt rfl⟩ rfl)) ?_
      refine Ev.nxk (guF rfl (congrArg Bool.not hb6) (ldP rfl rfl)) ?_
      obtain ⟨r8, hx7, h⟩ := bind_some h
      refine Ev.nxck (Ev.guF rfl (congrArg Bool.not hb6) (Ev.call (v := .bool r8) rfl (cns rfl rfl) rfl (spec_l07Cash_ok a1.Cash _ hx7) (fun h => nomatch (show false = true from h)))) ?_
      refine Ev.nxk (guF rfl (congrArg Bool.not hb6) (uNot rfl)) ?_
      refine Ev.nxk (pkF rfl (congrArg Bool.not hb6) rfl) ?_
      refine Ev.nxk (mvO rfl) ?_
      rcases ite_some h with ⟨hb9, h⟩ | ⟨hb9, h⟩
      ·refine Ev.nxk (guF rfl (congrArg Bool.not hb9) (mvO h3)) ?_
       refine Ev.nxk (guF rfl (congrArg Bool.not hb9) (ncP rfl)) ?_
       refine Ev.nxk (guF rfl (congrArg Bool.not hb9) (faP rfl ⟨ble rfl, blt rfl⟩ rfl)) ?_
       refine Ev.nxk (guF rfl (congrArg Bool.not hb9) (ldP rfl rfl)) ?_
       refine Ev.nxk (guF rfl (congrArg Bool.not hb9) (lnS Try.underlying54 rfl)) ?_
       refine Ev.nxk (guF rfl (congrArg Bool.not hb9) (bGtr rfl rfl)) ?_
       refine Ev.nxk (pkF rfl (congrArg Bool.not hb9) rfl) ?_
       refine Ev.rend ?_
       intro e10 he11
       have h12 := envp (t := 0) he11 rfl h3
       have h13 : eget e10 27 = .bool (decide ((a1.Tallies.length : Int) > 40)) := envp he11 rfl rfl
       clear h3
       cases h
       exact Ev.kid (show spec_l07Ok_c1_Q a1 _ _ from (And.intro rfl (And.intro h12 h13)))
      refine Ev.nxk (gsF rfl (congrArg Bool.not hb9)) ?_
      refine Ev.nxk (gsF rfl (congrArg Bool.not hb9)) ?_
      refine Ev.nxk (gsF rfl (congrArg Bool.not hb9)) ?_
      refine Ev.nxk (gsF rfl (congrArg Bool.not hb9)) ?_
      refine Ev.nxk (gsF rfl (congrArg Bool.not hb9)) ?_
      refine Ev.nxk (gsF rfl (congrArg Bool.not hb9)) ?_
      refine Ev.nxk (pkT rfl (congrArg Bool.not hb9) rfl) ?_
      refine Ev.rend ?_
      intro e14 he15
      have h16 := envp (t := 0) he15 rfl h3
      have h17 : eget e14 27 = .bool true := envp he15 rfl rfl
      clear h3
      cases h
      exact Ev.kid (show spec_l07Ok_c1_Q a1 _ _ from (And.intro rfl (And.intro h16 h17)))
     refine Ev.nxk (gsF rfl (congrArg Bool.not hb6)) ?_
     refine Ev.nxk (gsF rfl (congrArg Bool.not hb6)) ?_
     refine Ev.nxk (gsF rfl (congrArg Bool.not hb6)) ?_
     refine Ev.nxk (gsF rfl (congrArg Bool.not hb6)) ?_
     refine Ev.nxck (Ev.gsF rfl (congrArg Bool.not hb6)) ?_
     refine Ev.nxk (gsF rfl (congrArg Bool.not hb6)) ?_
     refine Ev.nxk (pkT rfl (congrArg Bool.not hb6) rfl) ?_
     refine Ev.nxk (mvO rfl) ?_
     refine Ev.nxk (gsF rfl rfl) ?_
     refine Ev.nxk (gsF rfl rfl) ?_
     refine Ev.nxk (gsF rfl rfl) ?_
     refine Ev.nxk (gsF rfl rfl) ?_
     refine Ev.nxk (gsF rfl rfl) ?_
     refine Ev.nxk (gsF rfl rfl) ?_
     refine Ev.nxk (pkT rfl rfl rfl) ?_
     refine Ev.rend ?_
     intro e18 he19
     have h20 := envp (t := 0) he19 rfl h3
     have h21 : eget e18 27 = .bool true := envp he19 rfl rfl
     clear h3
     cases h
     exact Ev.kid (show spec_l07Ok_c1_Q a1 _ _ from (And.intro rfl (And.intro h20 h21)))) ?_
 revert h hr217
 revert r216
 intro y24 hr217 h
 intro x e22 M23 hq215
 obtain ⟨rfl, h25, h26⟩ := hq215
 refine Ev.kseqN ?_
 rcases ite_some h with ⟨hb27, h⟩ | ⟨hb27, h⟩
 ·refine Ev.condT h26 hb27 ?_
  refine Ev.seq ?_
  refine Ev.reg (fun _ => rfl) ?_
  refine Ev.nxk (mvO rfl) ?_
  refine Ev.rend ?_
  intro e28 he29
  have h30 : eget e28 2 = .bool false := envp he29 rfl rfl
  clear h25 h26
  refine Ev.kseqN ?_
  refine Ev.ex ?_
  refine Ev.kseqR ?_
  cases h
  exact Ev.kendR (resT h30 res0) rfl
 refine Ev.condF h26 hb27 ?_
 refine Ev.ex ?_
 refine Ev.kseqN ?_
 refine Ev.seq ?_
 refine Ev.reg (fun _ => rfl) ?_
 refine Ev.nxk (mvO h25) ?_
 refine Ev.nxk (ncP rfl) ?_
 refine Ev.nxk (faP rfl ⟨ble rfl, blt rfl⟩ rfl) ?_
 refine Ev.nxk (ldP rfl rfl) ?_
 refine Ev.nxk (lnS Try.underlying47 rfl) ?_
 refine Ev.nxk (mvO rfl) ?_
 refine Ev.rend ?_
 intro e31 he32
 have h33 : eget e31 0 = .pt none [.int .i64 a1.Day, .sl none (a1.Cash.map (cI .i64)), .sl none (a1.Tallies.map Tally.c)] := envp he32 rfl h25
 have h34 : eget e31 3 = .int .i64 (a1.Cash.length : Int) := envp he32 rfl rfl
 clear h25 h26
 refine Ev.kseqN ?_
 refine Ev.seq ?_
 refine Ev.seq ?_
 refine Ev.reg (fun _ => rfl) ?_
 refine Ev.nxk (mvO rfl) ?_
 refine Ev.rend ?_
 intro e35 he36
 have h37 := envp (t := 0) he36 rfl h33
 have h38 := envp (t := 3) he36 rfl h34
 have h39 : eget e35 4 = .int .i64 0 := envp he36 rfl rfl
 clear h33 h34
 refine Ev.kseqN ?_
 refine Ev.blk ?_
 obtain ⟨r204, hr205, h⟩ := bind_some h
 rcases r204 with _ | _
 ·refine Ev.loop (RS := spec_l07Ok_b1_RS a1) (RR := spec_l07Ok_b1_RR a1) (fun s r h e M hs => spec_l07Ok_b1_ok a1 s r h e M hs) hr205 (And.intro h37 (And.intro h38 h39)) ?_
  intro x e207 M208 hq206
  obtain ⟨rfl, h209⟩ := hq206
  refine Ev.kblkR ?_
  refine Ev.kseqR ?_
  cases h
  exact Ev.kendR (resT h209 res0) rfl
 refine Ev.loop (RS := spec_l07Ok_b1_RS a1) (RR := spec_l07Ok_b1_RR a1) (fun s r h e M hs => spec_l07Ok_b1_ok a1 s r h e M hs) hr205 (And.intro h37 (And.intro h38 h39)) ?_
 intro x e210 M211 hq206
 obtain ⟨rfl, _⟩ := hq206
 refine Ev.kblkE ?_
 refine Ev.kseqN ?_
 refine Ev.seq ?_
 refine Ev.reg (fun _ => rfl) ?_
 refine Ev.nxk (mvO rfl) ?_
 refine Ev.rend ?_
 intro e212 he213
 have h214 : eget e212 2 = .bool true := envp he213 rfl rfl
 refine Ev.kseqN ?_
 refine Ev.ex ?_
 cases h
 exact Ev.kendR (resT h214 res0) rfl
/-! ### loop.example/g01263/laws.szTallyS (f60) -/
noncomputable def laws_szTallyS (a1 : List Tally) (a2 : Int) : Option Int :=
 if (decide ((IntKind.i64.wrap (a2 - (a1.length : Int))) < 0)) = true then
  some (-1)
 else
  some (IntKind.i64.wrap (a2 - (a1.length : Int)))
def laws_szTallyS_enc (r : Int) : AV := .int .i64 r
theorem laws_szTallyS_ok (a1 : List Tally) (a2 : Int) (r : Int) (h : laws_szTallyS a1 a2 = some r) : Ev (fun k => CN k 60 [.sl none (a1.map Tally.c), .int .i64 a2] []) (fun p => rRes p.2 p.1 = laws_szTallyS_enc r) := by
 unfold laws_szTallyS at h
 refine Ev.enter (F := fun k => f60 (CN k) k) (fun k => callN_eq rfl Try.func60 rfl rfl rfl (by decide +kernel) (f60_eq _ _)) ?_
 refine Ev.seq ?_
 refine Ev.reg (fun _ => rfl) ?_
 refine Ev.nxk (mvO rfl) ?_
 refine Ev.rend ?_
 intro e1 he2
 have h3 : eget e1 0 = .sl none (a1.map Tally.c) := envp he2 rfl rfl
 have h4 : eget e1 1 = .int .i64 a2 := envp he2 rfl rfl
 refine Ev.kseqN ?_
 refine Ev.seq ?_
 refine Ev.reg (fun _ => rfl) ?_
 refine Ev.nxk (mvO h4) ?_
 refine Ev.nxk (mvO h3) ?_
 refine Ev.nxk (lnS Try.underlying48 rfl) ?_
 refine Ev.nxk (bSub rfl rfl) ?_
 refine Ev.nxk (mvO rfl) ?_
 refine Ev.rend ?_
 intro e5 he6
 have h7 : eget e5 1 = .int .i64 (IntKind.i64.wrap (a2 - (a1.length : Int))) := envp he6 rfl rfl
 clear h3
 refine Ev.kseqN ?_
 refine Ev.seq ?_
 refine Ev.seq ?_
 refine Ev.reg (fun _ => rfl) ?_
 refine Ev.nxk (mvO h7) ?_
 refine Ev.nxk (bLss rfl rfl) ?_
 refine Ev.rend ?_
 intro e8 he9
 have h10 := envp (t := 1) he9 rfl h7
 have h11 : eget e8 10 = .bool (decide ((IntKind.i64.wrap (a2 - (a1.length : Int))) < 0)) := envp he9 rfl rfl
 clear h7
 refine Ev.kseqN ?_
 rcases ite_some h with ⟨hb12, h⟩ | ⟨hb12, h⟩
 ·refine Ev.condT h11 hb12 ?_
  refine Ev.seq ?_
  refine Ev.reg (fun _ => rfl) ?_
  refine Ev.nxk (mvO rfl) ?_
  refine Ev.rend ?_
  intro e13 he14
  have h15 : eget e13 4 = .int .i64 (-1) := envp he14 rfl rfl
  clear h10 h11
  refine Ev.kseqN ?_
  refine Ev.ex ?_
  refine Ev.kseqR ?_
  cases h
  exact Ev.kendR (resT h15 res0) rfl
 refine Ev.condF h11 hb12 ?_
 refine Ev.ex ?_
 refine Ev.kseqN ?_
 refine Ev.seq ?_
 refine Ev.reg (fun _ => rfl) ?_
 refine Ev.nxk (mvO h10) ?_
 refine Ev.nxk (mvO rfl) ?_
 refine Ev.rend ?_
 intro e16 he17
 have h18 : eget e16 4 = .int .i64 (IntKind.i64.wrap (a2 - (a1.length : Int))) := envp he17 rfl rfl
 clear h10 h11
 refine Ev.kseqN ?_
 refine Ev.ex ?_
 cases h
 exact Ev.kendR (resT h18 res0) rfl
/-! ### loop.example/g01263/laws.szInt64S (f59) -/
noncomputable def laws_szInt64S (a1 : List Int) (a2 : Int) : Option Int :=
 if (decide ((IntKind.i64.wrap (a2 - (a1.length : Int))) < 0)) = true then
  some (-1)
 else
  some (IntKind.i64.wrap (a2 - (a1.length : Int)))
def laws_szInt64S_enc (r : Int) : AV := .int .i64 r
theorem laws_szInt64S_ok (a1 : List Int) (a2 : Int) (r : Int) (h : laws_szInt64S a1 a2 = some r) : Ev (fun k => CN k 59 [.sl none (a1.map (cI .i64)), .int .i64 a2] []) (fun p => rRes p.2 p.1 = laws_szInt64S_enc r) := by
 unfold laws_szInt64S at h
 refine Ev.enter (F := fun k => f59 (CN k) k) (fun k => callN_eq rfl Try.func59 rfl rfl rfl (by decide +kernel) (f59_eq _ _)) ?_
 refine Ev.seq ?_
 refine Ev.reg (fun _ => rfl) ?_
 refine Ev.nxk (mvO rfl) ?_
 refine Ev.rend ?_
 intro e1 he2
 have h3 : eget e1 0 = .sl none (a1.map (cI .i64)) := envp he2 rfl rfl
 have h4 : eget e1 1 = .int .i64 a2 := envp he2 rfl rfl
 refine Ev.kseqN ?_
 refine Ev.seq ?_
 refine Ev.reg (fun _ => rfl) ?_
 refine Ev.nxk (mvO h4) ?_
 refine Ev.nxk (mvO h3) ?_
 refine Ev.nxk (lnS Try.underlying47 rfl) ?_
 refine Ev.nxk (bSub rfl rfl) ?_
 refine Ev.nxk (mvO rfl) ?_
 refine Ev.rend ?_
 intro e5 he6
 have h7 : eget e5 1 = .int .i64 (IntKind.i64.wrap (a2 - (a1.length : Int))) := envp he6 rfl rfl
 clear h3
 refine Ev.kseqN ?_
 refine Ev.seq ?_
 refine Ev.seq ?_
 refine Ev.reg (fun _ => rfl) ?_
 refine Ev.nxk (mvO h7) ?_
 refine Ev.nxk (bLss rfl rfl) ?_
 refine Ev.rend ?_
 intro e8 he9
 have h10 := envp (t := 1) he9 rfl h7
 have h11 : eget e8 10 = .bool (decide ((IntKind.i64.wrap (a2 - (a1.length : Int))) < 0)) := envp he9 rfl rfl
 clear h7
 refine Ev.kseqN ?_
 rcases ite_some h with ⟨hb12, h⟩ | ⟨hb12, h⟩
 ·refine Ev.condT h11 hb12 ?_
  refine Ev.seq ?_
  refine Ev.reg (fun _ => rfl) ?_
  refine Ev.nxk (mvO rfl) ?_
  refine Ev.rend ?_
  intro e13 he14
  have h15 : eget e13 4 = .int .i64 (-1) := envp he14 rfl rfl
  clear h10 h11
  refine Ev.kseqN ?_
  refine Ev.ex ?_
  refine Ev.kseqR ?_
  cases h
  exact Ev.kendR (resT h15 res0) rfl
 refine Ev.condF h11 hb12 ?_
 refine Ev.ex ?_
 refine Ev.kseqN ?_
 refine Ev.seq ?_
 refine Ev.reg (fun _ => rfl) ?_
 refine Ev.nxk (mvO h10) ?_
 refine Ev.nxk (mvO rfl) ?_
 refine Ev.rend ?_
 intro e16 he17
 have h18 : eget e16 4 = .int .i64 (IntKind.i64.wrap (a2 - (a1.length : Int))) := envp he17 rfl rfl
 clear h10 h11
 refine Ev.kseqN ?_
 refine Ev.ex ?_
 cases h
 exact Ev.kendR (resT h18 res0) rfl
/-! ### loop.example/g01263/laws.heldInt64S (f33) -/
abbrev laws_heldInt64S_b1_S := Int × Int
abbrev laws_heldInt64S_b1_R := Unit ⊕ Int
def laws_heldInt64S_b1_RS (a1 : List Int) (s : laws_heldInt64S_b1_S) (e : Env) (M : Mem) : Prop := eget e 0 = .sl none (a1.map (cI .i64)) ∧ eget e 1 = .int .i64 s.1 ∧ eget e 5 = .int .i64 s.2
def laws_heldInt64S_b1_RR (a1 : List Int) (r : laws_heldInt64S_b1_R) (x : Ex) (e : Env) (M : Mem) : Prop :=
  match r with
  | (.inl g) => x = .ret ∧ eget e 4 = .int .i64 (-1)
  | (.inr g) => x = .ext 0 ∧ eget e 1 = .int .i64 g
noncomputable def laws_heldInt64S_b1 (a1 : List Int) : laws_heldInt64S_b1_S → Option (laws_heldInt64S_b1_S ⊕ laws_heldInt64S_b1_R) := fun (s1_1, s1_2) =>
 if (decide (s1_2 < (a1.length : Int))) = true then
  (rd a1 s1_2).bind fun x33 =>
  if (x33 != s1_1) = true then
   some (.inr (.inl ()))
  else
   some (.inl ((IntKind.i64.wrap (s1_1 + 1)), (IntKind.i64.wrap (s1_2 + 1))))
 else
  some (.inr (.inr s1_1))
theorem laws_heldInt64S_b1_ok (a1 : List Int) (s : laws_heldInt64S_b1_S) (r : laws_heldInt64S_b1_S ⊕ laws_heldInt64S_b1_R) (h : laws_heldInt64S_b1 a1 s = some r) (e : Env) (M : Mem) (hs : laws_heldInt64S_b1_RS a1 s e M) : Ev (fun k => (f33_l2 (CN k) k (prune [0, 1, 5] e) M).bind fun q => some q) (bQ (laws_heldInt64S_b1_RS a1) (laws_heldInt64S_b1_RR a1) r) := by
 obtain ⟨s1_1, s1_2⟩ := s
 unfold laws_heldInt64S_b1 at h
 obtain ⟨h20, h22, h24⟩ := hs
 generalize he19 : prune [0, 1, 5] e = e18
 have h21 := envp he19.symm rfl h20
 have h23 := envp he19.symm rfl h22
 have h25 := envp he19.symm rfl h24
 refine Ev.seq ?_
 refine Ev.seq ?_
 refine Ev.reg (fun _ => rfl) ?_
 refine Ev.nxk (mvO h25) ?_
 refine Ev.nxk (mvO h21) ?_
 refine Ev.nxk (lnS Try.underlying47 rfl) ?_
 refine Ev.nxk (bLss rfl rfl) ?_
 refine Ev.rend ?_
 intro e26 he27
 have h28 : eget e26 0 = .sl none (a1.map (cI .i64)) := envp he27 rfl h21
 have h29 : eget e26 1 = .int .i64 s1_1 := envp he27 rfl h23
 have h30 : eget e26 5 = .int .i64 s1_2 := envp he27 rfl h25
 have h31 : eget e26 9 = .bool (decide (s1_2 < (a1.length : Int))) := envp he27 rfl rfl
 clear h21 h23 h25
 refine Ev.kseqN ?_
 rcases ite_some h with ⟨hb32, h⟩ | ⟨hb32, h⟩
 ·refine Ev.condT h31 hb32 ?_
  refine Ev.ex ?_
  refine Ev.kseqN ?_
  refine Ev.seq ?_
  refine Ev.blk ?_
  refine Ev.seq ?_
  refine Ev.seq ?_
  refine Ev.reg (fun _ => rfl) ?_
  refine Ev.nxk (mvO h28) ?_
  refine Ev.nxk (mvO h30) ?_
  obtain ⟨x33, hx34, h⟩ := bind_some h
  refine Ev.nxk (ixS rfl rfl hx34 (cI_fl _)) ?_
  refine Ev.nxk (ldP rfl rfl) ?_
  refine Ev.nxk (mvO h29) ?_
  refine Ev.nxk (bNeq rfl rfl) ?_
  refine Ev.rend ?_
  intro e35 he36
  have h37 := envp (t := 0) he36 rfl h28
  have h38 := envp (t := 1) he36 rfl h29
  have h39 := envp (t := 5) he36 rfl h30
  have h40 : eget e35 17 = .bool (x33 != s1_1) := envp he36 rfl rfl
  clear h28 h29 h30 h31
  refine Ev.kseqN ?_
  rcases ite_some h with ⟨hb41, h⟩ | ⟨hb41, h⟩
  ·refine Ev.condT h40 hb41 ?_
   refine Ev.seq ?_
   refine Ev.reg (fun _ => rfl) ?_
   refine Ev.nxk (mvO rfl) ?_
   refine Ev.rend ?_
   intro e42 he43
   have h44 : eget e42 4 = .int .i64 (-1) := envp he43 rfl rfl
   clear h37 h38 h39 h40
   refine Ev.kseqN ?_
   refine Ev.ex ?_
   refine Ev.kseqR ?_
   refine Ev.kblkR ?_
   refine Ev.kseqR ?_
   cases h
   exact Ev.kid (bQ_x (RS := (laws_heldInt64S_b1_RS a1)) (RR := (laws_heldInt64S_b1_RR a1)) (by intro h; cases h) (And.intro rfl h44))
  refine Ev.condF h40 hb41 ?_
  refine Ev.ex ?_
  refine Ev.kseqN ?_
  refine Ev.reg (fun _ => rfl) ?_
  refine Ev.nxk (mvO h38) ?_
  refine Ev.nxk (bAdd rfl rfl) ?_
  refine Ev.nxk (mvO rfl) ?_
  refine Ev.rend ?_
  intro e45 he46
  have h47 := envp (t := 0) he46 rfl h37
  have h48 : eget e45 1 = .int .i64 (IntKind.i64.wrap (s1_1 + 1)) := envp he46 rfl rfl
  have h49 := envp (t := 5) he46 rfl h39
  clear h37 h39 h40
  refine Ev.kblkN ?_
  refine Ev.kseqN ?_
  refine Ev.reg (fun _ => rfl) ?_
  refine Ev.nxk (mvO h49) ?_
  refine Ev.nxk (bAdd rfl rfl) ?_
  refine Ev.nxk (mvO rfl) ?_
  refine Ev.rend ?_
  intro e50 he51
  have h52 := envp (t := 0) he51 rfl h47
  have h53 := envp (t := 1) he51 rfl h48
  have h54 : eget e50 5 = .int .i64 (IntKind.i64.wrap (s1_2 + 1)) := envp he51 rfl rfl
  clear h47 h48
  cases h
  exact Ev.kid (bQ_n (RS := (laws_heldInt64S_b1_RS a1)) (RR := (laws_heldInt64S_b1_RR a1)) (And.intro h52 (And.intro h53 h54)))
 refine Ev.condF h31 hb32 ?_
 refine Ev.ex ?_
 refine Ev.kseqE ?_
 cases h
 exact Ev.kid (bQ_x (RS := (laws_heldInt64S_b1_RS a1)) (RR := (laws_heldInt64S_b1_RR a1)) (by intro h; cases h) (And.intro rfl h29))
noncomputable def laws_heldInt64S (a1 : List Int) (a2 : Int) : Option Int :=
 (Lw (laws_heldInt64S_b1 a1) (a2, 0)).bind fun r => match r with
 | (.inl _) =>
  some (-1)
 | (.inr y63) =>
  some y63
def laws_heldInt64S_enc (r : Int) : AV := .int .i64 r
theorem laws_heldInt64S_ok (a1 : List Int) (a2 : Int) (r : Int) (h : laws_heldInt64S a1 a2 = some r) : Ev (fun k => CN k 33 [.sl none (a1.map (cI .i64)), .int .i64 a2] []) (fun p => rRes p.2 p.1 = laws_heldInt64S_enc r) := by
 unfold laws_heldInt64S at h
 refine Ev.enter (F := fun k => f33 (CN k) k) (fun k => callN_eq rfl Try.func33 rfl rfl rfl (by decide +kernel) (f33_eq _ _)) ?_
 refine Ev.seq ?_
 refine Ev.reg (fun _ => rfl) ?_
 refine Ev.nxk (mvO rfl) ?_
 refine Ev.rend ?_
 intro e1 he2
 have h3 : eget e1 0 = .sl none (a1.map (cI .i64)) := envp he2 rfl rfl
 have h4 : eget e1 1 = .int .i64 a2 := envp he2 rfl rfl
 refine Ev.kseqN ?_
 refine Ev.seq ?_
 refine Ev.seq ?_
 refine Ev.reg (fun _ => rfl) ?_
 refine Ev.nxk (mvO rfl) ?_
 refine Ev.rend ?_
 intro e5 he6
 have h7 := envp (t := 0) he6 rfl h3
 have h8 : eget e5 1 = .int .i64 a2 := envp he6 rfl h4
 have h9 : eget e5 5 = .int .i64 0 := envp he6 rfl rfl
 clear h3 h4
 refine Ev.kseqN ?_
 refine Ev.blk ?_
 obtain ⟨r55, hr56, h⟩ := bind_some h
 rcases r55 with _ | y63
 ·refine Ev.loop (RS := laws_heldInt64S_b1_RS a1) (RR := laws_heldInt64S_b1_RR a1) (fun s r h e M hs => laws_heldInt64S_b1_ok a1 s r h e M hs) hr56 (And.intro h7 (And.intro h8 h9)) ?_
  intro x e58 M59 hq57
  obtain ⟨rfl, h60⟩ := hq57
  refine Ev.kblkR ?_
  refine Ev.kseqR ?_
  cases h
  exact Ev.kendR (resT h60 res0) rfl
 refine Ev.loop (RS := laws_heldInt64S_b1_RS a1) (RR := laws_heldInt64S_b1_RR a1) (fun s r h e M hs => laws_heldInt64S_b1_ok a1 s r h e M hs) hr56 (And.intro h7 (And.intro h8 h9)) ?_
 intro x e61 M62 hq57
 obtain ⟨rfl, h64⟩ := hq57
 refine Ev.kblkE ?_
 refine Ev.kseqN ?_
 refine Ev.seq ?_
 refine Ev.reg (fun _ => rfl) ?_
 refine Ev.nxk (mvO h64) ?_
 refine Ev.nxk (mvO rfl) ?_
 refine Ev.rend ?_
 intro e65 he66
 have h67 : eget e65 4 = .int .i64 y63 := envp he66 rfl rfl
 clear h64
 refine Ev.kseqN ?_
 refine Ev.ex ?_
 cases h
 exact Ev.kendR (resT h67 res0) rfl
/-! ### loop.example/g01263/laws.eqInt64S (f29) -/
abbrev laws_eqInt64S_b1_S := Int
abbrev laws_eqInt64S_b1_R := Unit ⊕ Unit
def laws_eqInt64S_b1_RS (a1 : List Int) (a2 : List Int) (s : laws_eqInt64S_b1_S) (e : Env) (M : Mem) : Prop := eget e 0 = .sl none (a1.map (cI .i64)) ∧ eget e 1 = .sl none (a2.map (cI .i64)) ∧ eget e 5 = .int .i64 s
def laws_eqInt64S_b1_RR (a1 : List Int) (a2 : List Int) (r : laws_eqInt64S_b1_R) (x : Ex) (e : Env) (M : Mem) : Prop :=
  match r with
  | (.inl g) => x = .ret ∧ eget e 4 = .bool false
  | (.inr g) => x = .ext 0 ∧ True
noncomputable def laws_eqInt64S_b1 (a1 : List Int) (a2 : List Int) : laws_eqInt64S_b1_S → Option (laws_eqInt64S_b1_S ⊕ laws_eqInt64S_b1_R) := fun s1_1 =>
 if (decide (s1_1 < (a1.length : Int))) = true then
  (rd a1 s1_1).bind fun x42 =>
  (rd a2 s1_1).bind fun x44 =>
  if (x42 != x44) = true then
   some (.inr (.inl ()))
  else
   some (.inl (IntKind.i64.wrap (s1_1 + 1)))
 else
  some (.inr (.inr ()))
theorem laws_eqInt64S_b1_ok (a1 : List Int) (a2 : List Int) (s : laws_eqInt64S_b1_S) (r : laws_eqInt64S_b1_S ⊕ laws_eqInt64S_b1_R) (h : laws_eqInt64S_b1 a1 a2 s = some r) (e : Env) (M : Mem) (hs : laws_eqInt64S_b1_RS a1 a2 s e M) : Ev (fun k => (f29_l4 (CN k) k (prune [0, 1, 5] e) M).bind fun q => some q) (bQ (laws_eqInt64S_b1_RS a1 a2) (laws_eqInt64S_b1_RR a1 a2) r) := by
 revert h hs
 revert s
 intro s1_1 h hs
 unfold laws_eqInt64S_b1 at h
 obtain ⟨h29, h31, h33⟩ := hs
 generalize he28 : prune [0, 1, 5] e = e27
 have h30 := envp he28.symm rfl h29
 have h32 := envp he28.symm rfl h31
 have h34 := envp he28.symm rfl h33
 refine Ev.seq ?_
 refine Ev.seq ?_
 refine Ev.reg (fun _ => rfl) ?_
 refine Ev.nxk (mvO h34) ?_
 refine Ev.nxk (mvO h30) ?_
 refine Ev.nxk (lnS Try.underlying47 rfl) ?_
 refine Ev.nxk (bLss rfl rfl) ?_
 refine Ev.rend ?_
 intro e35 he36
 have h37 : eget e35 0 = .sl none (a1.map (cI .i64)) := envp he36 rfl h30
 have h38 : eget e35 1 = .sl none (a2.map (cI .i64)) := envp he36 rfl h32
 have h39 : eget e35 5 = .int .i64 s1_1 := envp he36 rfl h34
 have h40 : eget e35 14 = .bool (decide (s1_1 < (a1.length : Int))) := envp he36 rfl rfl
 clear h30 h32 h34
 refine Ev.kseqN ?_
 rcases ite_some h with ⟨hb41, h⟩ | ⟨hb41, h⟩
 ·refine Ev.condT h40 hb41 ?_
  refine Ev.ex ?_
  refine Ev.kseqN ?_
  refine Ev.seq ?_
  refine Ev.blk ?_
  refine Ev.seq ?_
  refine Ev.regD (fun _ => rfl) ?_
  refine Ev.nfk (mvO h37) ?_
  refine Ev.nfk (mvO h39) ?_
  obtain ⟨x42, hx43, h⟩ := bind_some h
  refine Ev.nfk (ixS rfl rfl hx43 (cI_fl _)) ?_
  refine Ev.nfk (ldP rfl rfl) ?_
  refine Ev.nfk (mvO h38) ?_
  refine Ev.nfk (mvO h39) ?_
  obtain ⟨x44, hx45, h⟩ := bind_some h
  refine Ev.nfk (ixS rfl rfl hx45 (cI_fl _)) ?_
  refine Ev.nfk (ldP rfl rfl) ?_
  refine Ev.nfk (bNeq rfl rfl) ?_
  refine Ev.fend0 ?_
  refine Ev.rend ?_
  intro e46 he47
  have h48 := envp (t := 0) he47 rfl h37
  have h49 := envp (t := 1) he47 rfl h38
  have h50 := envp (t := 5) he47 rfl h39
  have h51 : eget e46 25 = .bool (x42 != x44) := envp he47 rfl rfl
  clear h37 h38 h39 h40
  refine Ev.kseqN ?_
  rcases ite_some h with ⟨hb52, h⟩ | ⟨hb52, h⟩
  ·refine Ev.condT h51 hb52 ?_
   refine Ev.seq ?_
   refine Ev.reg (fun _ => rfl) ?_
   refine Ev.nxk (mvO rfl) ?_
   refine Ev.rend ?_
   intro e53 he54
   have h55 : eget e53 4 = .bool false := envp he54 rfl rfl
   clear h48 h49 h50 h51
   refine Ev.kseqN ?_
   refine Ev.ex ?_
   refine Ev.kblkR ?_
   refine Ev.kseqR ?_
   cases h
   exact Ev.kid (bQ_x (RS := (laws_eqInt64S_b1_RS a1 a2)) (RR := (laws_eqInt64S_b1_RR a1 a2)) (by intro h; cases h) (And.intro rfl h55))
  refine Ev.condF h51 hb52 ?_
  refine Ev.ex ?_
  refine Ev.kblkN ?_
  refine Ev.kseqN ?_
  refine Ev.reg (fun _ => rfl) ?_
  refine Ev.nxk (mvO h50) ?_
  refine Ev.nxk (bAdd rfl rfl) ?_
  refine Ev.nxk (mvO rfl) ?_
  refine Ev.rend ?_
  intro e56 he57
  have h58 := envp (t := 0) he57 rfl h48
  have h59 := envp (t := 1) he57 rfl h49
  have h60 : eget e56 5 = .int .i64 (IntKind.i64.wrap (s1_1 + 1)) := envp he57 rfl rfl
  clear h48 h49 h51
  cases h
  exact Ev.kid (bQ_n (RS := (laws_eqInt64S_b1_RS a1 a2)) (RR := (laws_eqInt64S_b1_RR a1 a2)) (And.intro h58 (And.intro h59 h60)))
 refine Ev.condF h40 hb41 ?_
 refine Ev.ex ?_
 refine Ev.kseqE ?_
 cases h
 exact Ev.kid (bQ_x (RS := (laws_eqInt64S_b1_RS a1 a2)) (RR := (laws_eqInt64S_b1_RR a1 a2)) (by intro h; cases h) (And.intro rfl trivial))
noncomputable def laws_eqInt64S (a1 : List Int) (a2 : List Int) : Option Bool :=
 if ((a1.length : Int) != (a2.length : Int)) = true then
  some false
 else
  (Lw (laws_eqInt64S_b1 a1 a2) 0).bind fun r => match r with
  | (.inl _) =>
   some false
  | (.inr _) =>
   some true
def laws_eqInt64S_enc (r : Bool) : AV := .bool r
theorem laws_eqInt64S_ok (a1 : List Int) (a2 : List Int) (r : Bool) (h : laws_eqInt64S a1 a2 = some r) : Ev (fun k => CN k 29 [.sl none (a1.map (cI .i64)), .sl none (a2.map (cI .i64))] []) (fun p => rRes p.2 p.1 = laws_eqInt64S_enc r) := by
 unfold laws_eqInt64S at h
 refine Ev.enter (F := fun k => f29 (CN k) k) (fun k => callN_eq rfl Try.func29 rfl rfl rfl (by decide +kernel) (f29_eq _ _)) ?_
 refine Ev.seq ?_
 refine Ev.reg (fun _ => rfl) ?_
 refine Ev.nxk (mvO rfl) ?_
 refine Ev.rend ?_
 intro e1 he2
 have h3 : eget e1 0 = .sl none (a1.map (cI .i64)) := envp he2 rfl rfl
 have h4 : eget e1 1 = .sl none (a2.map (cI .i64)) := envp he2 rfl rfl
 refine Ev.kseqN ?_
 refine Ev.seq ?_
 refine Ev.seq ?_
 refine Ev.reg (fun _ => rfl) ?_
 refine Ev.nxk (mvO h3) ?_
 refine Ev.nxk (lnS Try.underlying47 rfl) ?_
 refine Ev.nxk (mvO h4) ?_
 refine Ev.nxk (lnS Try.underlying47 rfl) ?_
 refine Ev.nxk (bNeq rfl rfl) ?_
 refine Ev.rend ?_
 intro e5 he6
 have h7 := envp (t := 0) he6 rfl h3
 have h8 := envp (t := 1) he6 rfl h4
 have h9 : eget e5 10 = .bool ((a1.length : Int) != (a2.length : Int)) := envp he6 rfl rfl
 clear h3 h4
 refine Ev.kseqN ?_
 rcases ite_some h with ⟨hb10, h⟩ | ⟨hb10, h⟩
 ·refine Ev.condT h9 hb10 ?_
  refine Ev.seq ?_
  refine Ev.reg (fun _ => rfl) ?_
  refine Ev.nxk (mvO rfl) ?_
  refine Ev.rend ?_
  intro e11 he12
  have h13 : eget e11 4 = .bool false := envp he12 rfl rfl
  clear h7 h8 h9
  refine Ev.kseqN ?_
  refine Ev.ex ?_
  refine Ev.kseqR ?_
  cases h
  exact Ev.kendR (resT h13 res0) rfl
 refine Ev.condF h9 hb10 ?_
 refine Ev.ex ?_
 refine Ev.kseqN ?_
 refine Ev.seq ?_
 refine Ev.seq ?_
 refine Ev.reg (fun _ => rfl) ?_
 refine Ev.nxk (mvO rfl) ?_
 refine Ev.rend ?_
 intro e14 he15
 have h16 := envp (t := 0) he15 rfl h7
 have h17 := envp (t := 1) he15 rfl h8
 have h18 : eget e14 5 = .int .i64 0 := envp he15 rfl rfl
 clear h7 h8 h9
 refine Ev.kseqN ?_
 refine Ev.blk ?_
 obtain ⟨r61, hr62, h⟩ := bind_some h
 rcases r61 with _ | _
 ·refine Ev.loop (RS := laws_eqInt64S_b1_RS a1 a2) (RR := laws_eqInt64S_b1_RR a1 a2) (fun s r h e M hs => laws_eqInt64S_b1_ok a1 a2 s r h e M hs) hr62 (And.intro h16 (And.intro h17 h18)) ?_
  intro x e64 M65 hq63
  obtain ⟨rfl, h66⟩ := hq63
  refine Ev.kblkR ?_
  refine Ev.kseqR ?_
  cases h
  exact Ev.kendR (resT h66 res0) rfl
 refine Ev.loop (RS := laws_eqInt64S_b1_RS a1 a2) (RR := laws_eqInt64S_b1_RR a1 a2) (fun s r h e M hs => laws_eqInt64S_b1_ok a1 a2 s r h e M hs) hr62 (And.intro h16 (And.intro h17 h18)) ?_
 intro x e67 M68 hq63
 obtain ⟨rfl, _⟩ := hq63
 refine Ev.kblkE ?_
 refine Ev.kseqN ?_
 refine Ev.seq ?_
 refine Ev.reg (fun _ => rfl) ?_
 refine Ev.nxk (mvO rfl) ?_
 refine Ev.rend ?_
 intro e69 he70
 have h71 : eget e69 4 = .bool true := envp he70 rfl rfl
 refine Ev.kseqN ?_
 refine Ev.ex ?_
 cases h
 exact Ev.kendR (resT h71 res0) rfl
/-! ### loop.example/g01263/laws.heldBook (f24) -/
noncomputable def laws_heldBook (a1 : Book) (a2 : Int) : Option Int :=
 (laws_heldInt64S a1.Cash a2).bind fun r6 =>
 if (decide (r6 < 0)) = true then
  some (-1)
 else
  (laws_heldTallyS a1.Tallies r6).bind fun r21 =>
  if (decide (r21 < 0)) = true then
   some (-1)
  else
   some r21
def laws_heldBook_enc (r : Int) : AV := .int .i64 r
theorem laws_heldBook_ok (a1 : Book) (a2 : Int) (r : Int) (h : laws_heldBook a1 a2 = some r) : Ev (fun k => CN k 24 [.agg [.int .i64 a1.Day, .sl none (a1.Cash.map (cI .i64)), .sl none (a1.Tallies.map Tally.c)], .int .i64 a2] []) (fun p => rRes p.2 p.1 = laws_heldBook_enc r) := by
 unfold laws_heldBook at h
 refine Ev.enter (F := fun k => f24 (CN k) k) (fun k => callN_eq rfl Try.func24 rfl rfl rfl (by decide +kernel) (f24_eq _ _)) ?_
 refine Ev.seq ?_
 refine Ev.reg (fun _ => rfl) ?_
 refine Ev.nxk (bxI rfl rfl ⟨rfl, rfl, by decide⟩) ?_
 refine Ev.nxk (mvO rfl) ?_
 refine Ev.rend ?_
 intro e1 he2
 have h3 : eget e1 1 = .int .i64 a2 := envp he2 rfl rfl
 have h4 : eget e1 2 = .pt none [.int .i64 a1.Day, .sl none (a1.Cash.map (cI .i64)), .sl none (a1.Tallies.map Tally.c)] := envp he2 rfl rfl
 refine Ev.kseqN ?_
 refine Ev.seq ?_
 refine Ev.reg (fun _ => rfl) ?_
 refine Ev.nxk (faP h4 ⟨ble rfl, blt rfl⟩ rfl) ?_
 refine Ev.nxk (ldP rfl rfl) ?_
 refine Ev.nxk (mvO h3) ?_
 obtain ⟨r6, hx5, h⟩ := bind_some h
 refine Ev.nxck (Ev.call (v := .int .i64 r6) rfl (cns rfl (cns rfl rfl)) rfl (laws_heldInt64S_ok a1.Cash a2 _ hx5) (fun h => nomatch (show false = true from h))) ?_
 refine Ev.nxk (mvO rfl) ?_
 refine Ev.rend ?_
 intro e7 he8
 have h9 : eget e7 1 = .int .i64 r6 := envp he8 rfl rfl
 have h10 := envp (t := 2) he8 rfl h4
 clear h4
 refine Ev.kseqN ?_
 refine Ev.seq ?_
 refine Ev.seq ?_
 refine Ev.reg (fun _ => rfl) ?_
 refine Ev.nxk (mvO h9) ?_
 refine Ev.nxk (bLss rfl rfl) ?_
 refine Ev.rend ?_
 intro e11 he12
 have h13 : eget e11 1 = .int .i64 r6 := envp he12 rfl h9
 have h14 := envp (t := 2) he12 rfl h10
 have h15 : eget e11 10 = .bool (decide (r6 < 0)) := envp he12 rfl rfl
 clear h10 h9
 refine Ev.kseqN ?_
 rcases ite_some h with ⟨hb16, h⟩ | ⟨hb16, h⟩
 ·refine Ev.condT h15 hb16 ?_
  refine Ev.seq ?_
  refine Ev.reg (fun _ => rfl) ?_
  refine Ev.nxk (mvO rfl) ?_
  refine Ev.rend ?_
  intro e17 he18
  have h19 : eget e17 4 = .int .i64 (-1) := envp he18 rfl rfl
  clear h13 h14 h15
  refine Ev.kseqN ?_
  refine Ev.ex ?_
  refine Ev.kseqR ?_
  cases h
  exact Ev.kendR (resT h19 res0) rfl
 refine Ev.condF h15 hb16 ?_
 refine Ev.ex ?_
 refine Ev.kseqN ?_
 refine Ev.seq ?_
 refine Ev.reg (fun _ => rfl) ?_
 refine Ev.nxk (faP h14 ⟨ble rfl, blt rfl⟩ rfl) ?_
 refine Ev.nxk (ldP rfl rfl) ?_
 refine Ev.nxk (mvO h13) ?_
 obtain ⟨r21, hx20, h⟩ := bind_some h
 refine Ev.nxck (Ev.call (v := .int .i64 r21) rfl (cns rfl (cns rfl rfl)) rfl (laws_heldTallyS_ok a1.Tallies r6 _ hx20) (fun h => nomatch (show false = true from h))) ?_
 refine Ev.nxk (mvO rfl) ?_
 refine Ev.rend ?_
 intro e22 he23
 have h24 : eget e22 1 = .int .i64 r21 := envp he23 rfl rfl
 clear h14 h15
 refine Ev.kseqN ?_
 refine Ev.seq ?_
 refine Ev.seq ?_
 refine Ev.reg (fun _ => rfl) ?_
 refine Ev.nxk (mvO h24) ?_
 refine Ev.nxk (bLss rfl rfl) ?_
 refine Ev.rend ?_
 intro e25 he26
 have h27 := envp (t := 1) he26 rfl h24
 have h28 : eget e25 16 = .bool (decide (r21 < 0)) := envp he26 rfl rfl
 clear h24
 refine Ev.kseqN ?_
 rcases ite_some h with ⟨hb29, h⟩ | ⟨hb29, h⟩
 ·refine Ev.condT h28 hb29 ?_
  refine Ev.seq ?_
  refine Ev.reg (fun _ => rfl) ?_
  refine Ev.nxk (mvO rfl) ?_
  refine Ev.rend ?_
  intro e30 he31
  have h32 : eget e30 4 = .int .i64 (-1) := envp he31 rfl rfl
  clear h27 h28
  refine Ev.kseqN ?_
  refine Ev.ex ?_
  refine Ev.kseqR ?_
  cases h
  exact Ev.kendR (resT h32 res0) rfl
 refine Ev.condF h28 hb29 ?_
 refine Ev.ex ?_
 refine Ev.kseqN ?_
 refine Ev.seq ?_
 refine Ev.reg (fun _ => rfl) ?_
 refine Ev.nxk (mvO h27) ?_
 refine Ev.nxk (mvO rfl) ?_
 refine Ev.rend ?_
 intro e33 he34
 have h35 : eget e33 4 = .int .i64 r21 := envp he34 rfl rfl
 clear h27 h28
 refine Ev.kseqN ?_
 refine Ev.ex ?_
 cases h
 exact Ev.kendR (resT h35 res0) rfl
/-! ### loop.example/g01263/laws.eqBook (f22) -/
noncomputable def laws_eqBook (a1 : Book) (a2 : Book) : Option Bool :=
 if (a1.Day != a2.Day) = true then
  some false
 else
  (laws_eqInt64S a1.Cash a2.Cash).bind fun r15 =>
  if r15 = true then
   (laws_eqTallyS a1.Tallies a2.Tallies).bind fun r23 =>
   if r23 = true then
    some true
   else
    some false
  else
   some false
def laws_eqBook_enc (r : Bool) : AV := .bool r
theorem laws_eqBook_ok (a1 : Book) (a2 : Book) (r : Bool) (h : laws_eqBook a1 a2 = some r) : Ev (fun k => CN k 22 [.agg [.int .i64 a1.Day, .sl none (a1.Cash.map (cI .i64)), .sl none (a1.Tallies.map Tally.c)], .agg [.int .i64 a2.Day, .sl none (a2.Cash.map (cI .i64)), .sl none (a2.Tallies.map Tally.c)]] []) (fun p => rRes p.2 p.1 = laws_eqBook_enc r) := by
 unfold laws_eqBook at h
 refine Ev.enter (F := fun k => f22 (CN k) k) (fun k => callN_eq rfl Try.func22 rfl rfl rfl (by decide +kernel) (f22_eq _ _)) ?_
 refine Ev.seq ?_
 refine Ev.reg (fun _ => rfl) ?_
 refine Ev.nxk (bxI rfl rfl ⟨rfl, rfl, by decide⟩) ?_
 refine Ev.nxk (bxI rfl rfl ⟨rfl, rfl, by decide⟩) ?_
 refine Ev.nxk (mvO rfl) ?_
 refine Ev.rend ?_
 intro e1 he2
 have h3 : eget e1 2 = .pt none [.int .i64 a1.Day, .sl none (a1.Cash.map (cI .i64)), .sl none (a1.Tallies.map Tally.c)] := envp he2 rfl rfl
 have h4 : eget e1 3 = .pt none [.int .i64 a2.Day, .sl none (a2.Cash.map (cI .i64)), .sl none (a2.Tallies.map Tally.c)] := envp he2 rfl rfl
 refine Ev.kseqN ?_
 refine Ev.seq ?_
 refine Ev.seq ?_
 refine Ev.reg (fun _ => rfl) ?_
 refine Ev.nxk (faP h3 ⟨ble rfl, blt rfl⟩ rfl) ?_
 refine Ev.nxk (ldP rfl rfl) ?_
 refine Ev.nxk (faP h4 ⟨ble rfl, blt rfl⟩ rfl) ?_
 refine Ev.nxk (ldP rfl rfl) ?_
 refine Ev.nxk (bNeq rfl rfl) ?_
 refine Ev.rend ?_
 intro e5 he6
 have h7 := envp (t := 2) he6 rfl h3
 have h8 := envp (t := 3) he6 rfl h4
 have h9 : eget e5 9 = .bool (a1.Day != a2.Day) := envp he6 rfl rfl
 clear h3 h4
 refine Ev.kseqN ?_
 rcases ite_some h with ⟨hb10, h⟩ | ⟨hb10, h⟩
 ·refine Ev.condT h9 hb10 ?_
  refine Ev.seq ?_
  refine Ev.reg (fun _ => rfl) ?_
  refine Ev.nxk (mvO rfl) ?_
  refine Ev.rend ?_
  intro e11 he12
  have h13 : eget e11 4 = .bool false := envp he12 rfl rfl
  clear h7 h8 h9
  refine Ev.kseqN ?_
  refine Ev.ex ?_
  refine Ev.kseqR ?_
  cases h
  exact Ev.kendR (resT h13 res0) rfl
 refine Ev.condF h9 hb10 ?_
 refine Ev.ex ?_
 refine Ev.kseqN ?_
 refine Ev.seq ?_
 refine Ev.seq ?_
 refine Ev.reg (fun _ => rfl) ?_
 refine Ev.nxk (faP h7 ⟨ble rfl, blt rfl⟩ rfl) ?_
 refine Ev.nxk (ldP rfl rfl) ?_
 refine Ev.nxk (faP h8 ⟨ble rfl, blt rfl⟩ rfl) ?_
 refine Ev.nxk (ldP rfl rfl) ?_
 obtain ⟨r15, hx14, h⟩ := bind_some h
 refine Ev.nxck (Ev.call (v := .bool r15) rfl (cns rfl (cns rfl rfl)) rfl (laws_eqInt64S_ok a1.Cash a2.Cash _ hx14) (fun h => nomatch (show false = true from h))) ?_
 refine Ev.nxk (uNot rfl) ?_
 refine Ev.rend ?_
 intro e16 he17
 have h18 := envp (t := 2) he17 rfl h7
 have h19 := envp (t := 3) he17 rfl h8
 have h20 : eget e16 15 = .bool (!r15) := envp he17 rfl rfl
 clear h7 h8 h9
 refine Ev.kseqN ?_
 rcases ite_some h with ⟨hb21, h⟩ | ⟨hb21, h⟩
 ·refine Ev.condF h20 (congrArg Bool.not hb21) ?_
  refine Ev.ex ?_
  refine Ev.kseqN ?_
  refine Ev.seq ?_
  refine Ev.seq ?_
  refine Ev.reg (fun _ => rfl) ?_
  refine Ev.nxk (faP h18 ⟨ble rfl, blt rfl⟩ rfl) ?_
  refine Ev.nxk (ldP rfl rfl) ?_
  refine Ev.nxk (faP h19 ⟨ble rfl, blt rfl⟩ rfl) ?_
  refine Ev.nxk (ldP rfl rfl) ?_
  obtain ⟨r23, hx22, h⟩ := bind_some h
  refine Ev.nxck (Ev.call (v := .bool r23) rfl (cns rfl (cns rfl rfl)) rfl (laws_eqTallyS_ok a1.Tallies a2.Tallies _ hx22) (fun h => nomatch (show false = true from h))) ?_
  refine Ev.nxk (uNot rfl) ?_
  refine Ev.rend ?_
  intro e24 he25
  have h26 : eget e24 21 = .bool (!r23) := envp he25 rfl rfl
  clear h18 h19 h20
  refine Ev.kseqN ?_
  rcases ite_some h with ⟨hb27, h⟩ | ⟨hb27, h⟩
  ·refine Ev.condF h26 (congrArg Bool.not hb27) ?_
   refine Ev.ex ?_
   refine Ev.kseqN ?_
   refine Ev.seq ?_
   refine Ev.reg (fun _ => rfl) ?_
   refine Ev.nxk (mvO rfl) ?_
   refine Ev.rend ?_
   intro e28 he29
   have h30 : eget e28 4 = .bool true := envp he29 rfl rfl
   clear h26
   refine Ev.kseqN ?_
   refine Ev.ex ?_
   cases h
   exact Ev.kendR (resT h30 res0) rfl
  refine Ev.condT h26 (congrArg Bool.not hb27) ?_
  refine Ev.seq ?_
  refine Ev.reg (fun _ => rfl) ?_
  refine Ev.nxk (mvO rfl) ?_
  refine Ev.rend ?_
  intro e31 he32
  have h33 : eget e31 4 = .bool false := envp he32 rfl rfl
  clear h26
  refine Ev.kseqN ?_
  refine Ev.ex ?_
  refine Ev.kseqR ?_
  cases h
  exact Ev.kendR (resT h33 res0) rfl
 refine Ev.condT h20 (congrArg Bool.not hb21) ?_
 refine Ev.seq ?_
 refine Ev.reg (fun _ => rfl) ?_
 refine Ev.nxk (mvO rfl) ?_
 refine Ev.rend ?_
 intro e34 he35
 have h36 : eget e34 4 = .bool false := envp he35 rfl rfl
 clear h18 h19 h20
 refine Ev.kseqN ?_
 refine Ev.ex ?_
 refine Ev.kseqR ?_
 cases h
 exact Ev.kendR (resT h36 res0) rfl
/-! ### loop.example/g01263/impl.DoDeal (f21) -/
noncomputable def impl_DoDeal (a1 : Book) (a2 : Deal) : Option (Int ⊕ (Int × (List Int) × (List Tally))) :=
 (impl_ValidBook a1).bind fun r11 =>
 if r11 = true then
  (impl_ValidDeal a2).bind fun r14 =>
  if r14 = true then
   (impl_do a1 a2).bind fun r => match r with
   | (.inl r23) =>
    some (.inl r23)
   | (.inr (r31, r32, r33)) =>
    some (.inr (r31, r32, r33))
  else
   some (.inl 1)
 else
  some (.inl 1)
def impl_DoDeal_enc (r : Int ⊕ (Int × (List Int) × (List Tally))) : AV :=
  match r with
  | (.inl g) => .tup [.agg [.int .i64 0, .nils, .nils], .int .i64 g]
  | (.inr g) => .tup [.agg [.int .i64 g.1, .sl (some 2) (g.2.1.map (cI .i64)), .sl (some 156) (g.2.2.map Tally.c)], .int .i64 0]
theorem impl_DoDeal_ok (a1 : Book) (a2 : Deal) (r : Int ⊕ (Int × (List Int) × (List Tally))) (h : impl_DoDeal a1 a2 = some r) : Ev (fun k => CN k 21 [.agg [.int .i64 a1.Day, .sl none (a1.Cash.map (cI .i64)), .sl none (a1.Tallies.map Tally.c)], .agg [.int .i64 a2.Day, .int .i8 a2.Kind, .int .i64 a2.Tally, .int .i64 a2.From, .int .i64 a2.To, .int .i64 a2.Amount]] []) (fun p => rRes p.2 p.1 = impl_DoDeal_enc r) := by
 unfold impl_DoDeal at h
 refine Ev.enter (F := fun k => f21 (CN k) k) (fun k => callN_eq rfl Try.func21 rfl rfl rfl (by decide +kernel) (f21_eq _ _)) ?_
 refine Ev.seq ?_
 refine Ev.reg (fun _ => rfl) ?_
 refine Ev.nxk (bxI rfl rfl ⟨rfl, rfl, by decide⟩) ?_
 refine Ev.nxk (bxI rfl rfl ⟨rfl, rfl, by decide⟩) ?_
 refine Ev.nxpush (alO zero56) ?_
 intro M2 hM3
 have o4 : M2[([] : Mem).length]? = some (.live ⟨.box, 56, 3, [[.int .i64 0, .nils, .nils]]⟩) := push_new hM3
 refine Ev.nxk (mvO rfl) ?_
 refine Ev.rend ?_
 intro e5 he6
 have h7 : eget e5 2 = .pt none [.int .i64 a1.Day, .sl none (a1.Cash.map (cI .i64)), .sl none (a1.Tallies.map Tally.c)] := envp he6 rfl rfl
 have h8 : eget e5 3 = .pt none [.int .i64 a2.Day, .int .i8 a2.Kind, .int .i64 a2.Tally, .int .i64 a2.From, .int .i64 a2.To, .int .i64 a2.Amount] := envp he6 rfl rfl
 have h9 : eget e5 4 = .loc ([] : Mem).length 1 0 0 := envp he6 rfl rfl
 refine Ev.kseqN ?_
 refine Ev.seq ?_
 refine Ev.seq ?_
 refine Ev.reg (fun _ => rfl) ?_
 refine Ev.nxk (ldPA h7 rfl rfl) ?_
 obtain ⟨r11, hx10, h⟩ := bind_some h
 refine Ev.nxck (Ev.call (v := .bool r11) rfl (cns rfl rfl) rfl (impl_ValidBook_ok a1 _ hx10) (fun h => nomatch (show false = true from h))) ?_
 refine Ev.nxk (uNot rfl) ?_
 refine Ev.nxk (mvO rfl) ?_
 rcases ite_some h with ⟨hb12, h⟩ | ⟨hb12, h⟩
 ·refine Ev.nxk (guF rfl (congrArg Bool.not hb12) (ldPA h8 rfl rfl)) ?_
  obtain ⟨r14, hx13, h⟩ := bind_some h
  refine Ev.nxck (Ev.guF rfl (congrArg Bool.not hb12) (Ev.call (v := .bool r14) rfl (cns rfl rfl) rfl (impl_ValidDeal_ok a2 _ hx13) (fun h => nomatch (show false = true from h)))) ?_
  refine Ev.nxk (guF rfl (congrArg Bool.not hb12) (uNot rfl)) ?_
  refine Ev.nxk (pkF rfl (congrArg Bool.not hb12) rfl) ?_
  refine Ev.rend ?_
  intro e15 he16
  have h17 := envp (t := 2) he16 rfl h7
  have h18 := envp (t := 3) he16 rfl h8
  have h19 := envp (t := 4) he16 rfl h9
  have h20 : eget e15 13 = .bool (!r14) := envp he16 rfl rfl
  clear h7 h8 h9
  refine Ev.kseqN ?_
  rcases ite_some h with ⟨hb21, h⟩ | ⟨hb21, h⟩
  ·refine Ev.condF h20 (congrArg Bool.not hb21) ?_
   refine Ev.ex ?_
   refine Ev.kseqN ?_
   refine Ev.seq ?_
   refine Ev.reg (fun _ => rfl) ?_
   refine Ev.nxk (ldPA h17 rfl rfl) ?_
   refine Ev.nxk (ldPA h18 rfl rfl) ?_
   obtain ⟨q41, hx22, h⟩ := bind_some h
   rcases q41 with r23 | ⟨r31, r32, r33⟩
   ·refine Ev.nxck (Ev.call (v := .tup [.agg [.int .i64 0, .nils, .nils], .int .i64 r23]) rfl (cns rfl (cns rfl rfl)) rfl (impl_do_ok a1 a2 _ hx22) (fun h => nomatch (show false = true from h))) ?_
    refine Ev.nxk (exT rfl rfl) ?_
    refine Ev.nxk (exT rfl rfl) ?_
    refine Ev.nxput (stOK h19 rfl o4 rfl rfl ⟨rfl, ble rfl⟩ rfl rfl) ?_
    intro M24 hM25
    have o26 : M24[([] : Mem).length]? = some (.live ⟨.box, 56, 3, [[.int .i64 0, .nils, .nils]]⟩) := set_same hM25 o4
    refine Ev.nxk (mvO rfl) ?_
    refine Ev.rend ?_
    intro e27 he28
    have h29 := envp (t := 4) he28 rfl h19
    have h30 : eget e27 5 = .int .i64 r23 := envp he28 rfl rfl
    clear h17 h18 h19 h20
    refine Ev.kseqN ?_
    refine Ev.ex ?_
    cases h
    exact Ev.kendR (resC (ag := true) (sz := 3) ⟨by kernel_rfl, by kernel_rfl, by kernel_rfl⟩ (ldOA h29 o26 rfl rfl (ble rfl) rfl) (resT h30 res0)) rfl
   refine Ev.nxck (Ev.call (v := .tup [.agg [.int .i64 r31, .sl (some 2) (r32.map (cI .i64)), .sl (some 156) (r33.map Tally.c)], .int .i64 0]) rfl (cns rfl (cns rfl rfl)) rfl (impl_do_ok a1 a2 _ hx22) (fun h => nomatch (show false = true from h))) ?_
   refine Ev.nxk (exT rfl rfl) ?_
   refine Ev.nxk (exT rfl rfl) ?_
   refine Ev.nxput (stOK h19 rfl o4 rfl rfl ⟨rfl, ble rfl⟩ rfl rfl) ?_
   intro M34 hM35
   have o36 : M34[([] : Mem).length]? = some (.live ⟨.box, 56, 3, [[.int .i64 r31, .sl (some 2) (r32.map (cI .i64)), .sl (some 156) (r33.map Tally.c)]]⟩) := set_same hM35 o4
   refine Ev.nxk (mvO rfl) ?_
   refine Ev.rend ?_
   intro e37 he38
   have h39 := envp (t := 4) he38 rfl h19
   have h40 : eget e37 5 = .int .i64 0 := envp he38 rfl rfl
   clear h17 h18 h19 h20
   refine Ev.kseqN ?_
   refine Ev.ex ?_
   cases h
   exact Ev.kendR (resC (ag := true) (sz := 3) ⟨by kernel_rfl, by kernel_rfl, by kernel_rfl⟩ (ldOA h39 o36 rfl rfl (ble rfl) rfl) (resT h40 res0)) rfl
  refine Ev.condT h20 (congrArg Bool.not hb21) ?_
  refine Ev.seq ?_
  refine Ev.reg (fun _ => rfl) ?_
  refine Ev.nxk (bldT zero56 rfl (fill0 rfl)) ?_
  refine Ev.nxput (stOK h19 rfl o4 rfl rfl ⟨rfl, ble rfl⟩ rfl rfl) ?_
  intro M42 hM43
  have o44 : M42[([] : Mem).length]? = some (.live ⟨.box, 56, 3, [[.int .i64 0, .nils, .nils]]⟩) := set_same hM43 o4
  refine Ev.nxk (mvO rfl) ?_
  refine Ev.rend ?_
  intro e45 he46
  have h47 := envp (t := 4) he46 rfl h19
  have h48 : eget e45 5 = .int .i64 1 := envp he46 rfl rfl
  clear h17 h18 h19 h20
  refine Ev.kseqN ?_
  refine Ev.ex ?_
  refine Ev.kseqR ?_
  cases h
  exact Ev.kendR (resC (ag := true) (sz := 3) ⟨by kernel_rfl, by kernel_rfl, by kernel_rfl⟩ (ldOA h47 o44 rfl rfl (ble rfl) rfl) (resT h48 res0)) rfl
 refine Ev.nxk (gsF rfl (congrArg Bool.not hb12)) ?_
 refine Ev.nxck (Ev.gsF rfl (congrArg Bool.not hb12)) ?_
 refine Ev.nxk (gsF rfl (congrArg Bool.not hb12)) ?_
 refine Ev.nxk (pkT rfl (congrArg Bool.not hb12) rfl) ?_
 refine Ev.rend ?_
 intro e49 he50
 have h51 := envp (t := 2) he50 rfl h7
 have h52 := envp (t := 3) he50 rfl h8
 have h53 := envp (t := 4) he50 rfl h9
 have h54 : eget e49 13 = .bool true := envp he50 rfl rfl
 clear h7 h8 h9
 refine Ev.kseqN ?_
 refine Ev.condT h54 rfl ?_
 refine Ev.seq ?_
 refine Ev.reg (fun _ => rfl) ?_
 refine Ev.nxk (bldT zero56 rfl (fill0 rfl)) ?_
 refine Ev.nxput (stOK h53 rfl o4 rfl rfl ⟨rfl, ble rfl⟩ rfl rfl) ?_
 intro M55 hM56
 have o57 : M55[([] : Mem).length]? = some (.live ⟨.box, 56, 3, [[.int .i64 0, .nils, .nils]]⟩) := set_same hM56 o4
 refine Ev.nxk (mvO rfl) ?_
 refine Ev.rend ?_
 intro e58 he59
 have h60 := envp (t := 4) he59 rfl h53
 have h61 : eget e58 5 = .int .i64 1 := envp he59 rfl rfl
 clear h51 h52 h53 h54
 refine Ev.kseqN ?_
 refine Ev.ex ?_
 refine Ev.kseqR ?_
 cases h
 exact Ev.kendR (resC (ag := true) (sz := 3) ⟨by kernel_rfl, by kernel_rfl, by kernel_rfl⟩ (ldOA h60 o57 rfl rfl (ble rfl) rfl) (resT h61 res0)) rfl
/-! ### loop.example/g01263/laws.toDeal (f20) -/
noncomputable def laws_toDeal (a1 : Deal) : Option (Int × Int × Int × Int × Int × Int) :=
 some (a1.Day, a1.Kind, a1.Tally, a1.From, a1.To, a1.Amount)
def laws_toDeal_enc (r : Int × Int × Int × Int × Int × Int) : AV := .agg [.int .i64 r.1, .int .i8 r.2.1, .int .i64 r.2.2.1, .int .i64 r.2.2.2.1, .int .i64 r.2.2.2.2.1, .int .i64 r.2.2.2.2.2]
theorem laws_toDeal_ok (a1 : Deal) (r : Int × Int × Int × Int × Int × Int) (h : laws_toDeal a1 = some r) : Ev (fun k => CN k 20 [.agg [.int .i64 a1.Day, .int .i8 a1.Kind, .int .i64 a1.Tally, .int .i64 a1.From, .int .i64 a1.To, .int .i64 a1.Amount]] []) (fun p => rRes p.2 p.1 = laws_toDeal_enc r) := by
 unfold laws_toDeal at h
 refine Ev.enter (F := fun k => f20 (CN k) k) (fun k => callN_eq rfl Try.func20 rfl rfl rfl (by decide +kernel) (f20_eq _ _)) ?_
 refine Ev.seq ?_
 refine Ev.reg (fun _ => rfl) ?_
 refine Ev.nxk (bxI rfl rfl ⟨rfl, rfl, by decide⟩) ?_
 refine Ev.nxpush (alO zero60) ?_
 intro M2 hM3
 have o4 : M2[([] : Mem).length]? = some (.live ⟨.box, 60, 6, [[.int .i64 0, .int .i8 0, .int .i64 0, .int .i64 0, .int .i64 0, .int .i64 0]]⟩) := push_new hM3
 refine Ev.rend ?_
 intro e5 he6
 have h7 : eget e5 1 = .pt none [.int .i64 a1.Day, .int .i8 a1.Kind, .int .i64 a1.Tally, .int .i64 a1.From, .int .i64 a1.To, .int .i64 a1.Amount] := envp he6 rfl rfl
 have h8 : eget e5 2 = .loc ([] : Mem).length 1 0 0 := envp he6 rfl rfl
 refine Ev.kseqN ?_
 refine Ev.seq ?_
 refine Ev.reg (fun _ => rfl) ?_
 refine Ev.nxpush (alO zero60) ?_
 intro M10 hM11
 have o12 := push_old hM11 o4
 have ne13 := ne_new o4
 have o14 : M10[M2.length]? = some (.live ⟨.box, 60, 6, [[.int .i64 0, .int .i8 0, .int .i64 0, .int .i64 0, .int .i64 0, .int .i64 0]]⟩) := push_new hM11
 refine Ev.rend ?_
 intro e15 he16
 have h17 := envp (t := 1) he16 rfl h7
 have h18 := envp (t := 2) he16 rfl h8
 have h19 : eget e15 3 = .loc M2.length 1 0 0 := envp he16 rfl rfl
 clear h7 h8
 refine Ev.kseqN ?_
 refine Ev.seq ?_
 refine Ev.reg (fun _ => rfl) ?_
 refine Ev.nxk (faP h17 ⟨ble rfl, blt rfl⟩ rfl) ?_
 refine Ev.nxk (ldP rfl rfl) ?_
 refine Ev.nxk (faO h19 o14 rfl) ?_
 refine Ev.nxput (stO rfl rfl o14 rfl rfl ⟨rfl, ble rfl⟩ rfl rfl) ?_
 intro M20 hM21
 have o22 := set_ne hM21 ne13 o12
 have o23 : M20[M2.length]? = some (.live ⟨.box, 60, 6, [[.int .i64 a1.Day, .int .i8 0, .int .i64 0, .int .i64 0, .int .i64 0, .int .i64 0]]⟩) := set_same hM21 o14
 refine Ev.rend ?_
 intro e24 he25
 have h26 := envp (t := 1) he25 rfl h17
 have h27 := envp (t := 2) he25 rfl h18
 have h28 := envp (t := 3) he25 rfl h19
 clear h17 h18 h19
 refine Ev.kseqN ?_
 refine Ev.seq ?_
 refine Ev.reg (fun _ => rfl) ?_
 refine Ev.nxk (faP h26 ⟨ble rfl, blt rfl⟩ rfl) ?_
 refine Ev.nxk (ldP rfl rfl) ?_
 refine Ev.nxk (faO h28 o23 rfl) ?_
 refine Ev.nxput (stO rfl rfl o23 rfl rfl ⟨rfl, ble rfl⟩ rfl rfl) ?_
 intro M29 hM30
 have o31 := set_ne hM30 ne13 o22
 have o32 : M29[M2.length]? = some (.live ⟨.box, 60, 6, [[.int .i64 a1.Day, .int .i8 a1.Kind, .int .i64 0, .int .i64 0, .int .i64 0, .int .i64 0]]⟩) := set_same hM30 o23
 refine Ev.rend ?_
 intro e33 he34
 have h35 := envp (t := 1) he34 rfl h26
 have h36 := envp (t := 2) he34 rfl h27
 have h37 := envp (t := 3) he34 rfl h28
 clear h26 h27 h28
 refine Ev.kseqN ?_
 refine Ev.seq ?_
 refine Ev.reg (fun _ => rfl) ?_
 refine Ev.nxk (faP h35 ⟨ble rfl, blt rfl⟩ rfl) ?_
 refine Ev.nxk (ldP rfl rfl) ?_
 refine Ev.nxk (faO h37 o32 rfl) ?_
 refine Ev.nxput (stO rfl rfl o32 rfl rfl ⟨rfl, ble rfl⟩ rfl rfl) ?_
 intro M38 hM39
 have o40 := set_ne hM39 ne13 o31
 have o41 : M38[M2.length]? = some (.live ⟨.box, 60, 6, [[.int .i64 a1.Day, .int .i8 a1.Kind, .int .i64 a1.Tally, .int .i64 0, .int .i64 0, .int .i64 0]]⟩) := set_same hM39 o32
 refine Ev.rend ?_
 intro e42 he43
 have h44 := envp (t := 1) he43 rfl h35
 have h45 := envp (t := 2) he43 rfl h36
 have h46 := envp (t := 3) he43 rfl h37
 clear h35 h36 h37
 refine Ev.kseqN ?_
 refine Ev.seq ?_
 refine Ev.reg (fun _ => rfl) ?_
 refine Ev.nxk (faP h44 ⟨ble rfl, blt rfl⟩ rfl) ?_
 refine Ev.nxk (ldP rfl rfl) ?_
 refine Ev.nxk (faO h46 o41 rfl) ?_
 refine Ev.nxput (stO rfl rfl o41 rfl rfl ⟨rfl, ble rfl⟩ rfl rfl) ?_
 intro M47 hM48
 have o49 := set_ne hM48 ne13 o40
 have o50 : M47[M2.length]? = some (.live ⟨.box, 60, 6, [[.int .i64 a1.Day, .int .i8 a1.Kind, .int .i64 a1.Tally, .int .i64 a1.From, .int .i64 0, .int .i64 0]]⟩) := set_same hM48 o41
 refine Ev.rend ?_
 intro e51 he52
 have h53 := envp (t := 1) he52 rfl h44
 have h54 := envp (t := 2) he52 rfl h45
 have h55 := envp (t := 3) he52 rfl h46
 clear h44 h45 h46
 refine Ev.kseqN ?_
 refine Ev.seq ?_
 refine Ev.reg (fun _ => rfl) ?_
 refine Ev.nxk (faP h53 ⟨ble rfl, blt rfl⟩ rfl) ?_
 refine Ev.nxk (ldP rfl rfl) ?_
 refine Ev.nxk (faO h55 o50 rfl) ?_
 refine Ev.nxput (stO rfl rfl o50 rfl rfl ⟨rfl, ble rfl⟩ rfl rfl) ?_
 intro M56 hM57
 have o58 := set_ne hM57 ne13 o49
 have o59 : M56[M2.length]? = some (.live ⟨.box, 60, 6, [[.int .i64 a1.Day, .int .i8 a1.Kind, .int .i64 a1.Tally, .int .i64 a1.From, .int .i64 a1.To, .int .i64 0]]⟩) := set_same hM57 o50
 refine Ev.rend ?_
 intro e60 he61
 have h62 := envp (t := 1) he61 rfl h53
 have h63 := envp (t := 2) he61 rfl h54
 have h64 := envp (t := 3) he61 rfl h55
 clear h53 h54 h55
 refine Ev.kseqN ?_
 refine Ev.seq ?_
 refine Ev.reg (fun _ => rfl) ?_
 refine Ev.nxk (faP h62 ⟨ble rfl, blt rfl⟩ rfl) ?_
 refine Ev.nxk (ldP rfl rfl) ?_
 refine Ev.nxk (faO h64 o59 rfl) ?_
 refine Ev.nxput (stO rfl rfl o59 rfl rfl ⟨rfl, ble rfl⟩ rfl rfl) ?_
 intro M65 hM66
 have o67 := set_ne hM66 ne13 o58
 have o68 : M65[M2.length]? = some (.live ⟨.box, 60, 6, [[.int .i64 a1.Day, .int .i8 a1.Kind, .int .i64 a1.Tally, .int .i64 a1.From, .int .i64 a1.To, .int .i64 a1.Amount]]⟩) := set_same hM66 o59
 refine Ev.rend ?_
 intro e69 he70
 have h71 := envp (t := 2) he70 rfl h63
 have h72 := envp (t := 3) he70 rfl h64
 clear h62 h63 h64
 refine Ev.kseqN ?_
 refine Ev.seq ?_
 refine Ev.reg (fun _ => rfl) ?_
 refine Ev.nxk (ldOA h72 o68 rfl rfl (ble rfl) rfl) ?_
 refine Ev.nxput (stO h71 rfl o67 rfl rfl ⟨rfl, ble rfl⟩ rfl rfl) ?_
 intro M73 hM74
 have o75 : M73[([] : Mem).length]? = some (.live ⟨.box, 60, 6, [[.int .i64 a1.Day, .int .i8 a1.Kind, .int .i64 a1.Tally, .int .i64 a1.From, .int .i64 a1.To, .int .i64 a1.Amount]]⟩) := set_same hM74 o67
 have o76 := set_ne hM74 (Ne.symm ne13) o68
 refine Ev.rend ?_
 intro e77 he78
 have h79 := envp (t := 2) he78 rfl h71
 clear h71 h72
 refine Ev.kseqN ?_
 refine Ev.ex ?_
 cases h
 exact Ev.kendR (resC (ag := true) (sz := 6) ⟨by kernel_rfl, by kernel_rfl, by kernel_rfl⟩ (ldOA h79 o75 rfl rfl (ble rfl) rfl) res0) rfl
/-! ### loop.example/g01263/laws.toBook (f19) -/
noncomputable def laws_toBook (a1 : Book) : Option (Int × (List Int) × (List Tally)) :=
 (laws_toInt64S a1.Cash).bind fun r30 =>
 (laws_toTallyS a1.Tallies).bind fun r41 =>
 some (a1.Day, r30, r41)
def laws_toBook_enc (r : Int × (List Int) × (List Tally)) : AV := .agg [.int .i64 r.1, .sl (some 2) (r.2.1.map (cI .i64)), .sl (some 156) (r.2.2.map Tally.c)]
theorem laws_toBook_ok (a1 : Book) (r : Int × (List Int) × (List Tally)) (h : laws_toBook a1 = some r) : Ev (fun k => CN k 19 [.agg [.int .i64 a1.Day, .sl none (a1.Cash.map (cI .i64)), .sl none (a1.Tallies.map Tally.c)]] []) (fun p => rRes p.2 p.1 = laws_toBook_enc r) := by
 unfold laws_toBook at h
 refine Ev.enter (F := fun k => f19 (CN k) k) (fun k => callN_eq rfl Try.func19 rfl rfl rfl (by decide +kernel) (f19_eq _ _)) ?_
 refine Ev.seq ?_
 refine Ev.reg (fun _ => rfl) ?_
 refine Ev.nxk (bxI rfl rfl ⟨rfl, rfl, by decide⟩) ?_
 refine Ev.nxpush (alO zero56) ?_
 intro M2 hM3
 have o4 : M2[([] : Mem).length]? = some (.live ⟨.box, 56, 3, [[.int .i64 0, .nils, .nils]]⟩) := push_new hM3
 refine Ev.rend ?_
 intro e5 he6
 have h7 : eget e5 1 = .pt none [.int .i64 a1.Day, .sl none (a1.Cash.map (cI .i64)), .sl none (a1.Tallies.map Tally.c)] := envp he6 rfl rfl
 have h8 : eget e5 2 = .loc ([] : Mem).length 1 0 0 := envp he6 rfl rfl
 refine Ev.kseqN ?_
 refine Ev.seq ?_
 refine Ev.reg (fun _ => rfl) ?_
 refine Ev.nxpush (alO zero56) ?_
 intro M10 hM11
 have o12 := push_old hM11 o4
 have ne13 := ne_new o4
 have o14 : M10[M2.length]? = some (.live ⟨.box, 56, 3, [[.int .i64 0, .nils, .nils]]⟩) := push_new hM11
 refine Ev.rend ?_
 intro e15 he16
 have h17 := envp (t := 1) he16 rfl h7
 have h18 := envp (t := 2) he16 rfl h8
 have h19 : eget e15 3 = .loc M2.length 1 0 0 := envp he16 rfl rfl
 clear h7 h8
 refine Ev.kseqN ?_
 refine Ev.seq ?_
 refine Ev.reg (fun _ => rfl) ?_
 refine Ev.nxk (faP h17 ⟨ble rfl, blt rfl⟩ rfl) ?_
 refine Ev.nxk (ldP rfl rfl) ?_
 refine Ev.nxk (faO h19 o14 rfl) ?_
 refine Ev.nxput (stO rfl rfl o14 rfl rfl ⟨rfl, ble rfl⟩ rfl rfl) ?_
 intro M20 hM21
 have o22 := set_ne hM21 ne13 o12
 have o23 : M20[M2.length]? = some (.live ⟨.box, 56, 3, [[.int .i64 a1.Day, .nils, .nils]]⟩) := set_same hM21 o14
 refine Ev.rend ?_
 intro e24 he25
 have h26 := envp (t := 1) he25 rfl h17
 have h27 := envp (t := 2) he25 rfl h18
 have h28 := envp (t := 3) he25 rfl h19
 clear h17 h18 h19
 refine Ev.kseqN ?_
 refine Ev.seq ?_
 refine Ev.reg (fun _ => rfl) ?_
 refine Ev.nxk (faP h26 ⟨ble rfl, blt rfl⟩ rfl) ?_
 refine Ev.nxk (ldP rfl rfl) ?_
 obtain ⟨r30, hx29, h⟩ := bind_some h
 refine Ev.nxck (Ev.call (v := .sl (some 2) (r30.map (cI .i64))) rfl (cns rfl rfl) rfl (laws_toInt64S_ok a1.Cash _ hx29) (fun h => nomatch (show false = true from h))) ?_
 refine Ev.nxk (faO h28 o23 rfl) ?_
 refine Ev.nxput (stOK rfl rfl o23 rfl rfl ⟨rfl, ble rfl⟩ rfl rfl) ?_
 intro M31 hM32
 have o33 := set_ne hM32 ne13 o22
 have o34 : M31[M2.length]? = some (.live ⟨.box, 56, 3, [[.int .i64 a1.Day, .sl (some 2) (r30.map (cI .i64)), .nils]]⟩) := set_same hM32 o23
 refine Ev.rend ?_
 intro e35 he36
 have h37 := envp (t := 1) he36 rfl h26
 have h38 := envp (t := 2) he36 rfl h27
 have h39 := envp (t := 3) he36 rfl h28
 clear h26 h27 h28
 refine Ev.kseqN ?_
 refine Ev.seq ?_
 refine Ev.reg (fun _ => rfl) ?_
 refine Ev.nxk (faP h37 ⟨ble rfl, blt rfl⟩ rfl) ?_
 refine Ev.nxk (ldP rfl rfl) ?_
 obtain ⟨r41, hx40, h⟩ := bind_some h
 refine Ev.nxck (Ev.call (v := .sl (some 156) (r41.map Tally.c)) rfl (cns rfl rfl) rfl (laws_toTallyS_ok a1.Tallies _ hx40) (fun h => nomatch (show false = true from h))) ?_
 refine Ev.nxk (faO h39 o34 rfl) ?_
 refine Ev.nxput (stOK rfl rfl o34 rfl rfl ⟨rfl, ble rfl⟩ rfl rfl) ?_
 intro M42 hM43
 have o44 := set_ne hM43 ne13 o33
 have o45 : M42[M2.length]? = some (.live ⟨.box, 56, 3, [[.int .i64 a1.Day, .sl (some 2) (r30.map (cI .i64)), .sl (some 156) (r41.map Tally.c)]]⟩) := set_same hM43 o34
 refine Ev.rend ?_
 intro e46 he47
 have h48 := envp (t := 2) he47 rfl h38
 have h49 := envp (t := 3) he47 rfl h39
 clear h37 h38 h39
 refine Ev.kseqN ?_
 refine Ev.seq ?_
 refine Ev.reg (fun _ => rfl) ?_
 refine Ev.nxk (ldOA h49 o45 rfl rfl (ble rfl) rfl) ?_
 refine Ev.nxput (stOK h48 rfl o44 rfl rfl ⟨rfl, ble rfl⟩ rfl rfl) ?_
 intro M50 hM51
 have o52 : M50[([] : Mem).length]? = some (.live ⟨.box, 56, 3, [[.int .i64 a1.Day, .sl (some 2) (r30.map (cI .i64)), .sl (some 156) (r41.map Tally.c)]]⟩) := set_same hM51 o44
 have o53 := set_ne hM51 (Ne.symm ne13) o45
 refine Ev.rend ?_
 intro e54 he55
 have h56 := envp (t := 2) he55 rfl h48
 clear h48 h49
 refine Ev.kseqN ?_
 refine Ev.ex ?_
 cases h
 exact Ev.kendR (resC (ag := true) (sz := 3) ⟨by kernel_rfl, by kernel_rfl, by kernel_rfl⟩ (ldOA h56 o52 rfl rfl (ble rfl) rfl) res0) rfl
/-! ### loop.example/g01263/spec.DoDeal (f18) -/
noncomputable def spec_DoDeal (a1 : Book) (a2 : Deal) : Option (Int ⊕ (Int × (List Int) × (List Tally))) :=
 (spec_l07Ok a1).bind fun r11 =>
 if r11 = true then
  (spec_l07Deal a2).bind fun r14 =>
  if r14 = true then
   (spec_l07Do a1 a2).bind fun r => match r with
   | (.inl r23) =>
    some (.inl r23)
   | (.inr (r31, r32, r33)) =>
    some (.inr (r31, r32, r33))
  else
   some (.inl 1)
 else
  some (.inl 1)
def spec_DoDeal_enc (r : Int ⊕ (Int × (List Int) × (List Tally))) : AV :=
  match r with
  | (.inl g) => .tup [.agg [.int .i64 0, .nils, .nils], .int .i64 g]
  | (.inr g) => .tup [.agg [.int .i64 g.1, .sl none (g.2.1.map (cI .i64)), .sl none (g.2.2.map Tally.c)], .int .i64 0]
theorem spec_DoDeal_ok (a1 : Book) (a2 : Deal) (r : Int ⊕ (Int × (List Int) × (List Tally))) (h : spec_DoDeal a1 a2 = some r) : Ev (fun k => CN k 18 [.agg [.int .i64 a1.Day, .sl none (a1.Cash.map (cI .i64)), .sl none (a1.Tallies.map Tally.c)], .agg [.int .i64 a2.Day, .int .i8 a2.Kind, .int .i64 a2.Tally, .int .i64 a2.From, .int .i64 a2.To, .int .i64 a2.Amount]] []) (fun p => rRes p.2 p.1 = spec_DoDeal_enc r) := by
 unfold spec_DoDeal at h
 refine Ev.enter (F := fun k => f18 (CN k) k) (fun k => callN_eq rfl Try.func18 rfl rfl rfl (by decide +kernel) (f18_eq _ _)) ?_
 refine Ev.seq ?_
 refine Ev.reg (fun _ => rfl) ?_
 refine Ev.nxk (bxI rfl rfl ⟨rfl, rfl, by decide⟩) ?_
 refine Ev.nxk (bxI rfl rfl ⟨rfl, rfl, by decide⟩) ?_
 refine Ev.nxpush (alO zero56) ?_
 intro M2 hM3
 have o4 : M2[([] : Mem).length]? = some (.live ⟨.box, 56, 3, [[.int .i64 0, .nils, .nils]]⟩) := push_new hM3
 refine Ev.nxk (mvO rfl) ?_
 refine Ev.rend ?_
 intro e5 he6
 have h7 : eget e5 2 = .pt none [.int .i64 a1.Day, .sl none (a1.Cash.map (cI .i64)), .sl none (a1.Tallies.map Tally.c)] := envp he6 rfl rfl
 have h8 : eget e5 3 = .pt none [.int .i64 a2.Day, .int .i8 a2.Kind, .int .i64 a2.Tally, .int .i64 a2.From, .int .i64 a2.To, .int .i64 a2.Amount] := envp he6 rfl rfl
 have h9 : eget e5 4 = .loc ([] : Mem).length 1 0 0 := envp he6 rfl rfl
 refine Ev.kseqN ?_
 refine Ev.seq ?_
 refine Ev.seq ?_
 refine Ev.reg (fun _ => rfl) ?_
 obtain ⟨r11, hx10, h⟩ := bind_some h
 refine Ev.nxck (Ev.call (v := .bool r11) rfl (cns h7 rfl) rfl (spec_l07Ok_ok a1 _ hx10) (fun h => nomatch (show false = true from h))) ?_
 refine Ev.nxk (uNot rfl) ?_
 refine Ev.nxk (mvO rfl) ?_
 rcases ite_some h with ⟨hb12, h⟩ | ⟨hb12, h⟩
 ·obtain ⟨r14, hx13, h⟩ := bind_some h
  refine Ev.nxck (Ev.guF rfl (congrArg Bool.not hb12) (Ev.call (v := .bool r14) rfl (cns h8 rfl) rfl (spec_l07Deal_ok a2 _ hx13) (fun h => nomatch (show false = true from h)))) ?_
  refine Ev.nxk (guF rfl (congrArg Bool.not hb12) (uNot rfl)) ?_
  refine Ev.nxk (pkF rfl (congrArg Bool.not hb12) rfl) ?_
  refine Ev.rend ?_
  intro e15 he16
  have h17 := envp (t := 2) he16 rfl h7
  have h18 := envp (t := 3) he16 rfl h8
  have h19 := envp (t := 4) he16 rfl h9
  have h20 : eget e15 11 = .bool (!r14) := envp he16 rfl rfl
  clear h7 h8 h9
  refine Ev.kseqN ?_
  rcases ite_some h with ⟨hb21, h⟩ | ⟨hb21, h⟩
  ·refine Ev.condF h20 (congrArg Bool.not hb21) ?_
   refine Ev.ex ?_
   refine Ev.kseqN ?_
   refine Ev.seq ?_
   refine Ev.reg (fun _ => rfl) ?_
   obtain ⟨q41, hx22, h⟩ := bind_some h
   rcases q41 with r23 | ⟨r31, r32, r33⟩
   ·refine Ev.nxck (Ev.call (v := .tup [.agg [.int .i64 0, .nils, .nils], .int .i64 r23]) rfl (cns h17 (cns h18 rfl)) rfl (spec_l07Do_ok a1 a2 _ hx22) (fun h => nomatch (show false = true from h))) ?_
    refine Ev.nxk (exT rfl rfl) ?_
    refine Ev.nxk (exT rfl rfl) ?_
    refine Ev.nxput (stO h19 rfl o4 rfl rfl ⟨rfl, ble rfl⟩ rfl rfl) ?_
    intro M24 hM25
    have o26 : M24[([] : Mem).length]? = some (.live ⟨.box, 56, 3, [[.int .i64 0, .nils, .nils]]⟩) := set_same hM25 o4
    refine Ev.nxk (mvO rfl) ?_
    refine Ev.rend ?_
    intro e27 he28
    have h29 := envp (t := 4) he28 rfl h19
    have h30 : eget e27 5 = .int .i64 r23 := envp he28 rfl rfl
    clear h17 h18 h19 h20
    refine Ev.kseqN ?_
    refine Ev.ex ?_
    cases h
    exact Ev.kendR (resC (ag := true) (sz := 3) ⟨by kernel_rfl, by kernel_rfl, by kernel_rfl⟩ (ldOA h29 o26 rfl rfl (ble rfl) rfl) (resT h30 res0)) rfl
   refine Ev.nxck (Ev.call (v := .tup [.agg [.int .i64 r31, .sl (some 2) (r32.map (cI .i64)), .sl (some 156) (r33.map Tally.c)], .int .i64 0]) rfl (cns h17 (cns h18 rfl)) rfl (spec_l07Do_ok a1 a2 _ hx22) (fun h => nomatch (show false = true from h))) ?_
   refine Ev.nxk (exT rfl rfl) ?_
   refine Ev.nxk (exT rfl rfl) ?_
   refine Ev.nxput (stO h19 rfl o4 rfl rfl ⟨rfl, ble rfl⟩ rfl rfl) ?_
   intro M34 hM35
   have o36 : M34[([] : Mem).length]? = some (.live ⟨.box, 56, 3, [[.int .i64 r31, .sl none (r32.map (cI .i64)), .sl none (r33.map Tally.c)]]⟩) := set_same hM35 o4
   refine Ev.nxk (mvO rfl) ?_
   refine Ev.rend ?_
   intro e37 he38
   have h39 := envp (t := 4) he38 rfl h19
   have h40 : eget e37 5 = .int .i64 0 := envp he38 rfl rfl
   clear h17 h18 h19 h20
   refine Ev.kseqN ?_
   refine Ev.ex ?_
   cases h
   exact Ev.kendR (resC (ag := true) (sz := 3) ⟨by kernel_rfl, by kernel_rfl, by kernel_rfl⟩ (ldOA h39 o36 rfl rfl (ble rfl) rfl) (resT h40 res0)) rfl
  refine Ev.condT h20 (congrArg Bool.not hb21) ?_
  refine Ev.seq ?_
  refine Ev.reg (fun _ => rfl) ?_
  refine Ev.nxk (bldT zero56 rfl (fill0 rfl)) ?_
  refine Ev.nxput (stO h19 rfl o4 rfl rfl ⟨rfl, ble rfl⟩ rfl rfl) ?_
  intro M42 hM43
  have o44 : M42[([] : Mem).length]? = some (.live ⟨.box, 56, 3, [[.int .i64 0, .nils, .nils]]⟩) := set_same hM43 o4
  refine Ev.nxk (mvO rfl) ?_
  refine Ev.rend ?_
  intro e45 he46
  have h47 := envp (t := 4) he46 rfl h19
  have h48 : eget e45 5 = .int .i64 1 := envp he46 rfl rfl
  clear h17 h18 h19 h20
  refine Ev.kseqN ?_
  refine Ev.ex ?_
  refine Ev.kseqR ?_
  cases h
  exact Ev.kendR (resC (ag := true) (sz := 3) ⟨by kernel_rfl, by kernel_rfl, by kernel_rfl⟩ (ldOA h47 o44 rfl rfl (ble rfl) rfl) (resT h48 res0)) rfl
 refine Ev.nxck (Ev.gsF rfl (congrArg Bool.not hb12)) ?_
 refine Ev.nxk (gsF rfl (congrArg Bool.not hb12)) ?_
 refine Ev.nxk (pkT rfl (congrArg Bool.not hb12) rfl) ?_
 refine Ev.rend ?_
 intro e49 he50
 have h51 := envp (t := 2) he50 rfl h7
 have h52 := envp (t := 3) he50 rfl h8
 have h53 := envp (t := 4) he50 rfl h9
 have h54 : eget e49 11 = .bool true := envp he50 rfl rfl
 clear h7 h8 h9
 refine Ev.kseqN ?_
 refine Ev.condT h54 rfl ?_
 refine Ev.seq ?_
 refine Ev.reg (fun _ => rfl) ?_
 refine Ev.nxk (bldT zero56 rfl (fill0 rfl)) ?_
 refine Ev.nxput (stO h53 rfl o4 rfl rfl ⟨rfl, ble rfl⟩ rfl rfl) ?_
 intro M55 hM56
 have o57 : M55[([] : Mem).length]? = some (.live ⟨.box, 56, 3, [[.int .i64 0, .nils, .nils]]⟩) := set_same hM56 o4
 refine Ev.nxk (mvO rfl) ?_
 refine Ev.rend ?_
 intro e58 he59
 have h60 := envp (t := 4) he59 rfl h53
 have h61 : eget e58 5 = .int .i64 1 := envp he59 rfl rfl
 clear h51 h52 h53 h54
 refine Ev.kseqN ?_
 refine Ev.ex ?_
 refine Ev.kseqR ?_
 cases h
 exact Ev.kendR (resC (ag := true) (sz := 3) ⟨by kernel_rfl, by kernel_rfl, by kernel_rfl⟩ (ldOA h60 o57 rfl rfl (ble rfl) rfl) (resT h61 res0)) rfl
/-! ### loop.example/g01263/laws.szBook (f17) -/
noncomputable def laws_szBook (a1 : Book) (a2 : Int) : Option Int :=
 (laws_szInt64S a1.Cash a2).bind fun r6 =>
 if (decide (r6 < 0)) = true then
  some (-1)
 else
  (laws_szTallyS a1.Tallies r6).bind fun r21 =>
  if (decide (r21 < 0)) = true then
   some (-1)
  else
   some r21
def laws_szBook_enc (r : Int) : AV := .int .i64 r
theorem laws_szBook_ok (a1 : Book) (a2 : Int) (r : Int) (h : laws_szBook a1 a2 = some r) : Ev (fun k => CN k 17 [.agg [.int .i64 a1.Day, .sl none (a1.Cash.map (cI .i64)), .sl none (a1.Tallies.map Tally.c)], .int .i64 a2] []) (fun p => rRes p.2 p.1 = laws_szBook_enc r) := by
 unfold laws_szBook at h
 refine Ev.enter (F := fun k => f17 (CN k) k) (fun k => callN_eq rfl Try.func17 rfl rfl rfl (by decide +kernel) (f17_eq _ _)) ?_
 refine Ev.seq ?_
 refine Ev.reg (fun _ => rfl) ?_
 refine Ev.nxk (bxI rfl rfl ⟨rfl, rfl, by decide⟩) ?_
 refine Ev.nxk (mvO rfl) ?_
 refine Ev.rend ?_
 intro e1 he2
 have h3 : eget e1 1 = .int .i64 a2 := envp he2 rfl rfl
 have h4 : eget e1 2 = .pt none [.int .i64 a1.Day, .sl none (a1.Cash.map (cI .i64)), .sl none (a1.Tallies.map Tally.c)] := envp he2 rfl rfl
 refine Ev.kseqN ?_
 refine Ev.seq ?_
 refine Ev.reg (fun _ => rfl) ?_
 refine Ev.nxk (faP h4 ⟨ble rfl, blt rfl⟩ rfl) ?_
 refine Ev.nxk (ldP rfl rfl) ?_
 refine Ev.nxk (mvO h3) ?_
 obtain ⟨r6, hx5, h⟩ := bind_some h
 refine Ev.nxck (Ev.call (v := .int .i64 r6) rfl (cns rfl (cns rfl rfl)) rfl (laws_szInt64S_ok a1.Cash a2 _ hx5) (fun h => nomatch (show false = true from h))) ?_
 refine Ev.nxk (mvO rfl) ?_
 refine Ev.rend ?_
 intro e7 he8
 have h9 : eget e7 1 = .int .i64 r6 := envp he8 rfl rfl
 have h10 := envp (t := 2) he8 rfl h4
 clear h4
 refine Ev.kseqN ?_
 refine Ev.seq ?_
 refine Ev.seq ?_
 refine Ev.reg (fun _ => rfl) ?_
 refine Ev.nxk (mvO h9) ?_
 refine Ev.nxk (bLss rfl rfl) ?_
 refine Ev.rend ?_
 intro e11 he12
 have h13 : eget e11 1 = .int .i64 r6 := envp he12 rfl h9
 have h14 := envp (t := 2) he12 rfl h10
 have h15 : eget e11 10 = .bool (decide (r6 < 0)) := envp he12 rfl rfl
 clear h10 h9
 refine Ev.kseqN ?_
 rcases ite_some h with ⟨hb16, h⟩ | ⟨hb16, h⟩
 ·refine Ev.condT h15 hb16 ?_
  refine Ev.seq ?_
  refine Ev.reg (fun _ => rfl) ?_
  refine Ev.nxk (mvO rfl) ?_
  refine Ev.rend ?_
  intro e17 he18
  have h19 : eget e17 4 = .int .i64 (-1) := envp he18 rfl rfl
  clear h13 h14 h15
  refine Ev.kseqN ?_
  refine Ev.ex ?_
  refine Ev.kseqR ?_
  cases h
  exact Ev.kendR (resT h19 res0) rfl
 refine Ev.condF h15 hb16 ?_
 refine Ev.ex ?_
 refine Ev.kseqN ?_
 refine Ev.seq ?_
 refine Ev.reg (fun _ => rfl) ?_
 refine Ev.nxk (faP h14 ⟨ble rfl, blt rfl⟩ rfl) ?_
 refine Ev.nxk (ldP rfl rfl) ?_
 refine Ev.nxk (mvO h13) ?_
 obtain ⟨r21, hx20, h⟩ := bind_some h
 refine Ev.nxck (Ev.call (v := .int .i64 r21) rfl (cns rfl (cns rfl rfl)) rfl (laws_szTallyS_ok a1.Tallies r6 _ hx20) (fun h => nomatch (show false = true from h))) ?_
 refine Ev.nxk (mvO rfl) ?_
 refine Ev.rend ?_
 intro e22 he23
 have h24 : eget e22 1 = .int .i64 r21 := envp he23 rfl rfl
 clear h14 h15
 refine Ev.kseqN ?_
 refine Ev.seq ?_
 refine Ev.seq ?_
 refine Ev.reg (fun _ => rfl) ?_
 refine Ev.nxk (mvO h24) ?_
 refine Ev.nxk (bLss rfl rfl) ?_
 refine Ev.rend ?_
 intro e25 he26
 have h27 := envp (t := 1) he26 rfl h24
 have h28 : eget e25 16 = .bool (decide (r21 < 0)) := envp he26 rfl rfl
 clear h24
 refine Ev.kseqN ?_
 rcases ite_some h with ⟨hb29, h⟩ | ⟨hb29, h⟩
 ·refine Ev.condT h28 hb29 ?_
  refine Ev.seq ?_
  refine Ev.reg (fun _ => rfl) ?_
  refine Ev.nxk (mvO rfl) ?_
  refine Ev.rend ?_
  intro e30 he31
  have h32 : eget e30 4 = .int .i64 (-1) := envp he31 rfl rfl
  clear h27 h28
  refine Ev.kseqN ?_
  refine Ev.ex ?_
  refine Ev.kseqR ?_
  cases h
  exact Ev.kendR (resT h32 res0) rfl
 refine Ev.condF h28 hb29 ?_
 refine Ev.ex ?_
 refine Ev.kseqN ?_
 refine Ev.seq ?_
 refine Ev.reg (fun _ => rfl) ?_
 refine Ev.nxk (mvO h27) ?_
 refine Ev.nxk (mvO rfl) ?_
 refine Ev.rend ?_
 intro e33 he34
 have h35 : eget e33 4 = .int .i64 r21 := envp he34 rfl rfl
 clear h27 h28
 refine Ev.kseqN ?_
 refine Ev.ex ?_
 cases h
 exact Ev.kendR (resT h35 res0) rfl
/-! ### loop.example/g01263/laws.markInt64S (f32) -/
abbrev laws_markInt64S_l_b1_S := Int × Int × (List Int)
abbrev laws_markInt64S_l_b1_R := Int × (List Int)
def laws_markInt64S_l_b1_RS (a1 : List Int) (j1 : Nat) (M0 : Mem) (s : laws_markInt64S_l_b1_S) (e : Env) (M : Mem) : Prop := eget e 0 = .lsl j1 s.2.2.length 0 s.2.2.length ∧ eget e 1 = .int .i64 s.1 ∧ eget e 5 = .int .i64 s.2.1 ∧ M[j1]? = some (.live ⟨.grow, 2, 1, s.2.2.map (cI .i64)⟩) ∧ Fr [j1] M0 M ∧ s.2.2.length = a1.length
def laws_markInt64S_l_b1_RR (a1 : List Int) (j1 : Nat) (M0 : Mem) (g : laws_markInt64S_l_b1_R) (x : Ex) (e : Env) (M : Mem) : Prop := x = .ext 0 ∧ eget e 1 = .int .i64 g.1 ∧ M[j1]? = some (.live ⟨.grow, 2, 1, g.2.map (cI .i64)⟩) ∧ Fr [j1] M0 M ∧ g.2.length = a1.length
noncomputable def laws_markInt64S_l_b1 : laws_markInt64S_l_b1_S → Option (laws_markInt64S_l_b1_S ⊕ laws_markInt64S_l_b1_R) := fun (s1_1, s1_2, s1_3) =>
 if (decide (s1_2 < (s1_3.length : Int))) = true then
  (rd s1_3 s1_2).bind fun x38 =>
  some (.inl ((IntKind.i64.wrap (s1_1 + 1)), (IntKind.i64.wrap (s1_2 + 1)), (s1_3.set s1_2.toNat s1_1)))
 else
  some (.inr (s1_1, s1_3))
theorem laws_markInt64S_l_b1_ok (a1 : List Int) (j1 : Nat) (M0 : Mem) (s : laws_markInt64S_l_b1_S) (r : laws_markInt64S_l_b1_S ⊕ laws_markInt64S_l_b1_R) (h : laws_markInt64S_l_b1 s = some r) (e : Env) (M : Mem) (hs : laws_markInt64S_l_b1_RS a1 j1 M0 s e M) : Ev (fun k => (f32_l2 (CN k) k (prune [0, 1, 5] e) M).bind fun q => some q) (bQ (laws_markInt64S_l_b1_RS a1 j1 M0) (laws_markInt64S_l_b1_RR a1 j1 M0) r) := by
 obtain ⟨s1_1, s1_2, s1_3⟩ := s
 unfold laws_markInt64S_l_b1 at h
 obtain ⟨h22, h24, h26, o28, fr29, hl30⟩ := hs
 generalize he21 : prune [0, 1, 5] e = e20
 have h23 := envp he21.symm rfl h22
 have h25 := envp he21.symm rfl h24
 have h27 := envp he21.symm rfl h26
 refine Ev.seq ?_
 refine Ev.seq ?_
 refine Ev.reg (fun _ => rfl) ?_
 refine Ev.nxk (mvO h27) ?_
 refine Ev.nxk (mvO h23) ?_
 refine Ev.nxk (lnL Try.underlying47 rfl o28 (by simp [hl30])) ?_
 refine Ev.nxk (bLss rfl rfl) ?_
 refine Ev.rend ?_
 intro e31 he32
 have h33 : eget e31 0 = .lsl j1 s1_3.length 0 s1_3.length := envp he32 rfl h23
 have h34 : eget e31 1 = .int .i64 s1_1 := envp he32 rfl h25
 have h35 : eget e31 5 = .int .i64 s1_2 := envp he32 rfl h27
 have h36 : eget e31 9 = .bool (decide (s1_2 < (s1_3.length : Int))) := envp he32 rfl rfl
 clear h23 h25 h27
 refine Ev.kseqN ?_
 rcases ite_some h with ⟨hb37, h⟩ | ⟨hb37, h⟩
 ·refine Ev.condT h36 hb37 ?_
  refine Ev.ex ?_
  refine Ev.kseqN ?_
  refine Ev.seq ?_
  refine Ev.blk ?_
  refine Ev.seq ?_
  refine Ev.reg (fun _ => rfl) ?_
  refine Ev.nxk (mvO h33) ?_
  refine Ev.nxk (mvO h35) ?_
  refine Ev.nxk (mvO h34) ?_
  obtain ⟨x38, hx39, h⟩ := bind_some h
  refine Ev.nxk (ixO rfl o28 rfl rfl (rd_get hx39).1 (rd_lt hx39).2) ?_
  refine Ev.nxput (stR (u := x38) (u' := s1_1) rfl rfl o28 rfl (by rw [Nat.zero_add]; exact (rd_get hx39).2) ⟨rfl, ble rfl⟩ rfl rfl) ?_
  intro M40 hM41
  rw [Nat.zero_add] at hM41
  have o42 : M40[j1]? = some (.live ⟨.grow, 2, 1, (s1_3.set s1_2.toNat s1_1).map (cI .i64)⟩) := set_same hM41 o28
  have fr43 := Fr.setIn fr29 hM41 (by simp)
  have hx44 := rd_set (u' := s1_1) hx39
  refine Ev.rend ?_
  intro e45 he46
  have h47 := envp (t := 0) he46 rfl h33
  have h48 := envp (t := 1) he46 rfl h34
  have h49 := envp (t := 5) he46 rfl h35
  clear h33 h34 h35 h36
  refine Ev.kseqN ?_
  refine Ev.reg (fun _ => rfl) ?_
  refine Ev.nxk (mvO h48) ?_
  refine Ev.nxk (bAdd rfl rfl) ?_
  refine Ev.nxk (mvO rfl) ?_
  refine Ev.rend ?_
  intro e50 he51
  have h52 := envp (t := 0) he51 rfl h47
  have h53 : eget e50 1 = .int .i64 (IntKind.i64.wrap (s1_1 + 1)) := envp he51 rfl rfl
  have h54 := envp (t := 5) he51 rfl h49
  clear h47 h49
  refine Ev.kblkN ?_
  refine Ev.kseqN ?_
  refine Ev.reg (fun _ => rfl) ?_
  refine Ev.nxk (mvO h54) ?_
  refine Ev.nxk (bAdd rfl rfl) ?_
  refine Ev.nxk (mvO rfl) ?_
  refine Ev.rend ?_
  intro e55 he56
  have h57 := envp (t := 0) he56 rfl h52
  have h58 := envp (t := 1) he56 rfl h53
  have h59 : eget e55 5 = .int .i64 (IntKind.i64.wrap (s1_2 + 1)) := envp he56 rfl rfl
  clear h52 h53
  cases h
  exact Ev.kid (bQ_n (RS := (laws_markInt64S_l_b1_RS a1 j1 M0)) (RR := (laws_markInt64S_l_b1_RR a1 j1 M0)) (And.intro (lslL (L' := (s1_3.set s1_2.toNat s1_1).length) h57 (by simp [hl30])) (And.intro h58 (And.intro h59 (And.intro o42 (And.intro fr43 (by first | rfl | simp [hl30])))))))
 refine Ev.condF h36 hb37 ?_
 refine Ev.ex ?_
 refine Ev.kseqE ?_
 cases h
 exact Ev.kid (bQ_x (RS := (laws_markInt64S_l_b1_RS a1 j1 M0)) (RR := (laws_markInt64S_l_b1_RR a1 j1 M0)) (by intro h; cases h) (And.intro rfl (And.intro h34 (And.intro o28 (And.intro fr29 (by first | rfl | simp [hl30]))))))
noncomputable def laws_markInt64S_l (a1 : List Int) (a2 : Int) : Option (Int × (List Int)) :=
 (Lw (laws_markInt64S_l_b1) (a2, 0, a1)).bind fun (y65, y66) =>
 some (y65, y66)
def laws_markInt64S_l_Q (a1 : List Int) (a2 : Int) (j1 : Nat) (M0 : Mem) (r : Int × (List Int)) (p : AV × Mem) : Prop := p.1 = .int .i64 r.1 ∧ p.2[j1]? = some (.live ⟨.grow, 2, 1, r.2.map (cI .i64)⟩) ∧ Fr [j1] M0 p.2 ∧ r.2.length = a1.length
theorem laws_markInt64S_l_ok (a1 : List Int) (a2 : Int) (j1 : Nat) (M0 : Mem) (oP1 : M0[j1]? = some (.live ⟨.grow, 2, 1, a1.map (cI .i64)⟩)) (r : Int × (List Int)) (h : laws_markInt64S_l a1 a2 = some r) : Ev (fun k => CN k 32 [.lsl j1 a1.length 0 a1.length, .int .i64 a2] M0) (laws_markInt64S_l_Q a1 a2 j1 M0 r) := by
 unfold laws_markInt64S_l at h
 have fr0 : Fr [j1] M0 M0 := Fr.refl
 refine Ev.enter (F := fun k => f32 (CN k) k) (fun k => callN_eq rfl Try.func32 rfl rfl rfl (by decide +kernel) (f32_eq _ _)) ?_
 refine Ev.seq ?_
 refine Ev.reg (fun _ => rfl) ?_
 refine Ev.nxk (mvO rfl) ?_
 refine Ev.rend ?_
 intro e1 he2
 have h3 : eget e1 0 = .lsl j1 a1.length 0 a1.length := envp he2 rfl rfl
 have h4 : eget e1 1 = .int .i64 a2 := envp he2 rfl rfl
 refine Ev.kseqN ?_
 refine Ev.seq ?_
 refine Ev.seq ?_
 refine Ev.reg (fun _ => rfl) ?_
 refine Ev.nxk (mvO rfl) ?_
 refine Ev.rend ?_
 intro e5 he6
 have h7 := envp (t := 0) he6 rfl h3
 have h8 : eget e5 1 = .int .i64 a2 := envp he6 rfl h4
 have h9 : eget e5 5 = .int .i64 0 := envp he6 rfl rfl
 clear h3 h4
 refine Ev.kseqN ?_
 refine Ev.blk ?_
 obtain ⟨⟨y65, y66⟩, hr61, h⟩ := bind_some h
 refine Ev.loop (RS := laws_markInt64S_l_b1_RS a1 j1 M0) (RR := laws_markInt64S_l_b1_RR a1 j1 M0) (fun s r h e M hs => laws_markInt64S_l_b1_ok a1 j1 M0 s r h e M hs) hr61 (And.intro h7 (And.intro h8 (And.intro h9 (And.intro oP1 (And.intro fr0 rfl))))) ?_
 intro x e63 M64 hq62
 obtain ⟨rfl, h67, o68, fr69, hl70⟩ := hq62
 refine Ev.kblkE ?_
 refine Ev.kseqN ?_
 refine Ev.seq ?_
 refine Ev.reg (fun _ => rfl) ?_
 refine Ev.nxk (mvO h67) ?_
 refine Ev.nxk (mvO rfl) ?_
 refine Ev.rend ?_
 intro e71 he72
 have h73 : eget e71 4 = .int .i64 y65 := envp he72 rfl rfl
 clear h67
 refine Ev.kseqN ?_
 refine Ev.ex ?_
 cases h
 exact Ev.kendR (resT h73 res0) (And.intro rfl (And.intro o68 (And.intro fr69 (by first | rfl | simp [hl70]))))
/-! ### loop.example/g01263/laws.markTallyS (f70) -/
abbrev laws_markTallyS_l_b1_S := Int × Int × (List Tally)
abbrev laws_markTallyS_l_b1_R := Int × (List Tally)
def laws_markTallyS_l_b1_RS (a1 : List Tally) (j1 : Nat) (M0 : Mem) (s : laws_markTallyS_l_b1_S) (e : Env) (M : Mem) : Prop := eget e 0 = .lsl j1 s.2.2.length 0 s.2.2.length ∧ eget e 1 = .int .i64 s.1 ∧ eget e 5 = .int .i64 s.2.1 ∧ M[j1]? = some (.live ⟨.grow, 156, 5, s.2.2.map Tally.c⟩) ∧ Fr [j1] M0 M ∧ s.2.2.length = a1.length
def laws_markTallyS_l_b1_RR (a1 : List Tally) (j1 : Nat) (M0 : Mem) (g : laws_markTallyS_l_b1_R) (x : Ex) (e : Env) (M : Mem) : Prop := x = .ext 0 ∧ eget e 1 = .int .i64 g.1 ∧ M[j1]? = some (.live ⟨.grow, 156, 5, g.2.map Tally.c⟩) ∧ Fr [j1] M0 M ∧ g.2.length = a1.length
noncomputable def laws_markTallyS_l_b1 : laws_markTallyS_l_b1_S → Option (laws_markTallyS_l_b1_S ⊕ laws_markTallyS_l_b1_R) := fun (s1_1, s1_2, s1_3) =>
 if (decide (s1_2 < (s1_3.length : Int))) = true then
  (rd s1_3 s1_2).bind fun x38 =>
  (rd (s1_3.set s1_2.toNat (Tally.mk s1_1 x38.Holder x38.Cut x38.Amount x38.Left)) s1_2).bind fun x55 =>
  (rd ((s1_3.set s1_2.toNat (Tally.mk s1_1 x38.Holder x38.Cut x38.Amount x38.Left)).set s1_2.toNat (Tally.mk x55.Debtor (IntKind.i64.wrap (s1_1 + 1)) x55.Cut x55.Amount x55.Left)) s1_2).bind fun x72 =>
  (rd (((s1_3.set s1_2.toNat (Tally.mk s1_1 x38.Holder x38.Cut x38.Amount x38.Left)).set s1_2.toNat (Tally.mk x55.Debtor (IntKind.i64.wrap (s1_1 + 1)) x55.Cut x55.Amount x55.Left)).set s1_2.toNat (Tally.mk x72.Debtor x72.Holder (IntKind.i64.wrap ((IntKind.i64.wrap (s1_1 + 1)) + 1)) x72.Amount x72.Left)) s1_2).bind fun x89 =>
  (rd ((((s1_3.set s1_2.toNat (Tally.mk s1_1 x38.Holder x38.Cut x38.Amount x38.Left)).set s1_2.toNat (Tally.mk x55.Debtor (IntKind.i64.wrap (s1_1 + 1)) x55.Cut x55.Amount x55.Left)).set s1_2.toNat (Tally.mk x72.Debtor x72.Holder (IntKind.i64.wrap ((IntKind.i64.wrap (s1_1 + 1)) + 1)) x72.Amount x72.Left)).set s1_2.toNat (Tally.mk x89.Debtor x89.Holder x89.Cut (IntKind.i64.wrap ((IntKind.i64.wrap ((IntKind.i64.wrap (s1_1 + 1)) + 1)) + 1)) x89.Left)) s1_2).bind fun x106 =>
  some (.inl ((IntKind.i64.wrap ((IntKind.i64.wrap ((IntKind.i64.wrap ((IntKind.i64.wrap ((IntKind.i64.wrap (s1_1 + 1)) + 1)) + 1)) + 1)) + 1)), (IntKind.i64.wrap (s1_2 + 1)), (((((s1_3.set s1_2.toNat (Tally.mk s1_1 x38.Holder x38.Cut x38.Amount x38.Left)).set s1_2.toNat (Tally.mk x55.Debtor (IntKind.i64.wrap (s1_1 + 1)) x55.Cut x55.Amount x55.Left)).set s1_2.toNat (Tally.mk x72.Debtor x72.Holder (IntKind.i64.wrap ((IntKind.i64.wrap (s1_1 + 1)) + 1)) x72.Amount x72.Left)).set s1_2.toNat (Tally.mk x89.Debtor x89.Holder x89.Cut (IntKind.i64.wrap ((IntKind.i64.wrap ((IntKind.i64.wrap (s1_1 + 1)) + 1)) + 1)) x89.Left)).set s1_2.toNat (Tally.mk x106.Debtor x106.Holder x106.Cut x106.Amount (IntKind.i64.wrap ((IntKind.i64.wrap ((IntKind.i64.wrap ((IntKind.i64.wrap (s1_1 + 1)) + 1)) + 1)) + 1))))))
 else
  some (.inr (s1_1, s1_3))
theorem laws_markTallyS_l_b1_ok (a1 : List Tally) (j1 : Nat) (M0 : Mem) (s : laws_markTallyS_l_b1_S) (r : laws_markTallyS_l_b1_S ⊕ laws_markTallyS_l_b1_R) (h : laws_markTallyS_l_b1 s = some r) (e : Env) (M : Mem) (hs : laws_markTallyS_l_b1_RS a1 j1 M0 s e M) : Ev (fun k => (f70_l2 (CN k) k (prune [0, 1, 5] e) M).bind fun q => some q) (bQ (laws_markTallyS_l_b1_RS a1 j1 M0) (laws_markTallyS_l_b1_RR a1 j1 M0) r) := by
 obtain ⟨s1_1, s1_2, s1_3⟩ := s
 unfold laws_markTallyS_l_b1 at h
 obtain ⟨h22, h24, h26, o28, fr29, hl30⟩ := hs
 generalize he21 : prune [0, 1, 5] e = e20
 have h23 := envp he21.symm rfl h22
 have h25 := envp he21.symm rfl h24
 have h27 := envp he21.symm rfl h26
 refine Ev.seq ?_
 refine Ev.seq ?_
 refine Ev.reg (fun _ => rfl) ?_
 refine Ev.nxk (mvO h27) ?_
 refine Ev.nxk (mvO h23) ?_
 refine Ev.nxk (lnL Try.underlying54 rfl o28 (by simp [hl30])) ?_
 refine Ev.nxk (bLss rfl rfl) ?_
 refine Ev.rend ?_
 intro e31 he32
 have h33 : eget e31 0 = .lsl j1 s1_3.length 0 s1_3.length := envp he32 rfl h23
 have h34 : eget e31 1 = .int .i64 s1_1 := envp he32 rfl h25
 have h35 : eget e31 5 = .int .i64 s1_2 := envp he32 rfl h27
 have h36 : eget e31 9 = .bool (decide (s1_2 < (s1_3.length : Int))) := envp he32 rfl rfl
 clear h23 h25 h27
 refine Ev.kseqN ?_
 rcases ite_some h with ⟨hb37, h⟩ | ⟨hb37, h⟩
 ·refine Ev.condT h36 hb37 ?_
  refine Ev.ex ?_
  refine Ev.kseqN ?_
  refine Ev.seq ?_
  refine Ev.blk ?_
  refine Ev.seq ?_
  refine Ev.reg (fun _ => rfl) ?_
  refine Ev.nxk (mvO h33) ?_
  refine Ev.nxk (mvO h35) ?_
  refine Ev.nxk (mvO h34) ?_
  obtain ⟨x38, hx39, h⟩ := bind_some h
  refine Ev.nxk (ixO rfl o28 rfl rfl (rd_get hx39).1 (rd_lt hx39).2) ?_
  refine Ev.nxk (faO rfl o28 (by simp [hl30])) ?_
  refine Ev.nxput (stR (u := x38) (u' := (Tally.mk s1_1 x38.Holder x38.Cut x38.Amount x38.Left)) rfl rfl o28 rfl (by rw [Nat.zero_add]; exact (rd_get hx39).2) ⟨rfl, ble rfl⟩ rfl rfl) ?_
  intro M40 hM41
  rw [Nat.zero_add] at hM41
  have o42 : M40[j1]? = some (.live ⟨.grow, 156, 5, (s1_3.set s1_2.toNat (Tally.mk s1_1 x38.Holder x38.Cut x38.Amount x38.Left)).map Tally.c⟩) := set_same hM41 o28
  have fr43 := Fr.setIn fr29 hM41 (by simp)
  have hx44 := rd_set (u' := (Tally.mk s1_1 x38.Holder x38.Cut x38.Amount x38.Left)) hx39
  refine Ev.rend ?_
  intro e45 he46
  have h47 := envp (t := 0) he46 rfl h33
  have h48 := envp (t := 1) he46 rfl h34
  have h49 := envp (t := 5) he46 rfl h35
  clear h33 h34 h35 h36
  refine Ev.kseqN ?_
  refine Ev.seq ?_
  refine Ev.reg (fun _ => rfl) ?_
  refine Ev.nxk (mvO h48) ?_
  refine Ev.nxk (bAdd rfl rfl) ?_
  refine Ev.nxk (mvO rfl) ?_
  refine Ev.rend ?_
  intro e50 he51
  have h52 := envp (t := 0) he51 rfl h47
  have h53 : eget e50 1 = .int .i64 (IntKind.i64.wrap (s1_1 + 1)) := envp he51 rfl rfl
  have h54 := envp (t := 5) he51 rfl h49
  clear h47 h49
  refine Ev.kseqN ?_
  refine Ev.seq ?_
  refine Ev.reg (fun _ => rfl) ?_
  refine Ev.nxk (mvO (lslL (L' := (s1_3.set s1_2.toNat (Tally.mk s1_1 x38.Holder x38.Cut x38.Amount x38.Left)).length) h52 (by simp [hl30]))) ?_
  refine Ev.nxk (mvO h54) ?_
  refine Ev.nxk (mvO h53) ?_
  obtain ⟨x55, hx56, h⟩ := bind_some h
  refine Ev.nxk (ixO rfl o42 rfl rfl (rd_get hx56).1 (rd_lt hx56).2) ?_
  refine Ev.nxk (faO rfl o42 (by simp [hl30])) ?_
  refine Ev.nxput (stR (u := x55) (u' := (Tally.mk x55.Debtor (IntKind.i64.wrap (s1_1 + 1)) x55.Cut x55.Amount x55.Left)) rfl rfl o42 rfl (by rw [Nat.zero_add]; exact (rd_get hx56).2) ⟨rfl, ble rfl⟩ rfl rfl) ?_
  intro M57 hM58
  rw [Nat.zero_add] at hM58
  have o59 : M57[j1]? = some (.live ⟨.grow, 156, 5, ((s1_3.set s1_2.toNat (Tally.mk s1_1 x38.Holder x38.Cut x38.Amount x38.Left)).set s1_2.toNat (Tally.mk x55.Debtor (IntKind.i64.wrap (s1_1 + 1)) x55.Cut x55.Amount x55.Left)).map Tally.c⟩) := set_same hM58 o42
  have fr60 := Fr.setIn fr43 hM58 (by simp)
  have hx61 := rd_set (u' := (Tally.mk x55.Debtor (IntKind.i64.wrap (s1_1 + 1)) x55.Cut x55.Amount x55.Left)) hx56
  refine Ev.rend ?_
  intro e62 he63
  have h64 := envp (t := 0) he63 rfl h52
  have h65 := envp (t := 1) he63 rfl h53
  have h66 := envp (t := 5) he63 rfl h54
  clear h52 h53 h54
  refine Ev.kseqN ?_
  refine Ev.seq ?_
  refine Ev.reg (fun _ => rfl) ?_
  refine Ev.nxk (mvO h65) ?_
  refine Ev.nxk (bAdd rfl rfl) ?_
  refine Ev.nxk (mvO rfl) ?_
  refine Ev.rend ?_
  intro e67 he68
  have h69 := envp (t := 0) he68 rfl h64
  have h70 : eget e67 1 = .int .i64 (IntKind.i64.wrap ((IntKind.i64.wrap (s1_1 + 1)) + 1)) := envp he68 rfl rfl
  have h71 := envp (t := 5) he68 rfl h66
  clear h64 h66
  refine Ev.kseqN ?_
  refine Ev.seq ?_
  refine Ev.reg (fun _ => rfl) ?_
  refine Ev.nxk (mvO (lslL (L' := ((s1_3.set s1_2.toNat (Tally.mk s1_1 x38.Holder x38.Cut x38.Amount x38.Left)).set s1_2.toNat (Tally.mk x55.Debtor (IntKind.i64.wrap (s1_1 + 1)) x55.Cut x55.Amount x55.Left)).length) h69 (by simp [hl30]))) ?_
  refine Ev.nxk (mvO h71) ?_
  refine Ev.nxk (mvO h70) ?_
  obtain ⟨x72, hx73, h⟩ := bind_some h
  refine Ev.nxk (ixO rfl o59 rfl rfl (rd_get hx73).1 (rd_lt hx73).2) ?_
  refine Ev.nxk (faO rfl o59 (by simp [hl30])) ?_
  refine Ev.nxput (stR (u := x72) (u' := (Tally.mk x72.Debtor x72.Holder (IntKind.i64.wrap ((IntKind.i64.wrap (s1_1 + 1)) + 1)) x72.Amount x72.Left)) rfl rfl o59 rfl (by rw [Nat.zero_add]; exact (rd_get hx73).2) ⟨rfl, ble rfl⟩ rfl rfl) ?_
  intro M74 hM75
  rw [Nat.zero_add] at hM75
  have o76 : M74[j1]? = some (.live ⟨.grow, 156, 5, (((s1_3.set s1_2.toNat (Tally.mk s1_1 x38.Holder x38.Cut x38.Amount x38.Left)).set s1_2.toNat (Tally.mk x55.Debtor (IntKind.i64.wrap (s1_1 + 1)) x55.Cut x55.Amount x55.Left)).set s1_2.toNat (Tally.mk x72.Debtor x72.Holder (IntKind.i64.wrap ((IntKind.i64.wrap (s1_1 + 1)) + 1)) x72.Amount x72.Left)).map Tally.c⟩) := set_same hM75 o59
  have fr77 := Fr.setIn fr60 hM75 (by simp)
  have hx78 := rd_set (u' := (Tally.mk x72.Debtor x72.Holder (IntKind.i64.wrap ((IntKind.i64.wrap (s1_1 + 1)) + 1)) x72.Amount x72.Left)) hx73
  refine Ev.rend ?_
  intro e79 he80
  have h81 := envp (t := 0) he80 rfl h69
  have h82 := envp (t := 1) he80 rfl h70
  have h83 := envp (t := 5) he80 rfl h71
  clear h69 h70 h71
  refine Ev.kseqN ?_
  refine Ev.seq ?_
  refine Ev.reg (fun _ => rfl) ?_
  refine Ev.nxk (mvO h82) ?_
  refine Ev.nxk (bAdd rfl rfl) ?_
  refine Ev.nxk (mvO rfl) ?_
  refine Ev.rend ?_
  intro e84 he85
  have h86 := envp (t := 0) he85 rfl h81
  have h87 : eget e84 1 = .int .i64 (IntKind.i64.wrap ((IntKind.i64.wrap ((IntKind.i64.wrap (s1_1 + 1)) + 1)) + 1)) := envp he85 rfl rfl
  have h88 := envp (t := 5) he85 rfl h83
  clear h81 h83
  refine Ev.kseqN ?_
  refine Ev.seq ?_
  refine Ev.reg (fun _ => rfl) ?_
  refine Ev.nxk (mvO (lslL (L' := (((s1_3.set s1_2.toNat (Tally.mk s1_1 x38.Holder x38.Cut x38.Amount x38.Left)).set s1_2.toNat (Tally.mk x55.Debtor (IntKind.i64.wrap (s1_1 + 1)) x55.Cut x55.Amount x55.Left)).set s1_2.toNat (Tally.mk x72.Debtor x72.Holder (IntKind.i64.wrap ((IntKind.i64.wrap (s1_1 + 1)) + 1)) x72.Amount x72.Left)).length) h86 (by simp [hl30]))) ?_
  refine Ev.nxk (mvO h88) ?_
  refine Ev.nxk (mvO h87) ?_
  obtain ⟨x89, hx90, h⟩ := bind_some h
  refine Ev.nxk (ixO rfl o76 rfl rfl (rd_get hx90).1 (rd_lt hx90).2) ?_
  refine Ev.nxk (faO rfl o76 (by simp [hl30])) ?_
  refine Ev.nxput (stR (u := x89) (u' := (Tally.mk x89.Debtor x89.Holder x89.Cut (IntKind.i64.wrap ((IntKind.i64.wrap ((IntKind.i64.wrap (s1_1 + 1)) + 1)) + 1)) x89.Left)) rfl rfl o76 rfl (by rw [Nat.zero_add]; exact (rd_get hx90).2) ⟨rfl, ble rfl⟩ rfl rfl) ?_
  intro M91 hM92
  rw [Nat.zero_add] at hM92
  have o93 : M91[j1]? = some (.live ⟨.grow, 156, 5, ((((s1_3.set s1_2.toNat (Tally.mk s1_1 x38.Holder x38.Cut x38.Amount x38.Left)).set s1_2.toNat (Tally.mk x55.Debtor (IntKind.i64.wrap (s1_1 + 1)) x55.Cut x55.Amount x55.Left)).set s1_2.toNat (Tally.mk x72.Debtor x72.Holder (IntKind.i64.wrap ((IntKind.i64.wrap (s1_1 + 1)) + 1)) x72.Amount x72.Left)).set s1_2.toNat (Tally.mk x89.Debtor x89.Holder x89.Cut (IntKind.i64.wrap ((IntKind.i64.wrap ((IntKind.i64.wrap (s1_1 + 1)) + 1)) + 1)) x89.Left)).map Tally.c⟩) := set_same hM92 o76
  have fr94 := Fr.setIn fr77 hM92 (by simp)
  have hx95 := rd_set (u' := (Tally.mk x89.Debtor x89.Holder x89.Cut (IntKind.i64.wrap ((IntKind.i64.wrap ((IntKind.i64.wrap (s1_1 + 1)) + 1)) + 1)) x89.Left)) hx90
  refine Ev.rend ?_
  intro e96 he97
  have h98 := envp (t := 0) he97 rfl h86
  have h99 := envp (t := 1) he97 rfl h87
  have h100 := envp (t := 5) he97 rfl h88
  clear h86 h87 h88
  refine Ev.kseqN ?_
  refine Ev.seq ?_
  refine Ev.reg (fun _ => rfl) ?_
  refine Ev.nxk (mvO h99) ?_
  refine Ev.nxk (bAdd rfl rfl) ?_
  refine Ev.nxk (mvO rfl) ?_
  refine Ev.rend ?_
  intro e101 he102
  have h103 := envp (t := 0) he102 rfl h98
  have h104 : eget e101 1 = .int .i64 (IntKind.i64.wrap ((IntKind.i64.wrap ((IntKind.i64.wrap ((IntKind.i64.wrap (s1_1 + 1)) + 1)) + 1)) + 1)) := envp he102 rfl rfl
  have h105 := envp (t := 5) he102 rfl h100
  clear h100 h98
  refine Ev.kseqN ?_
  refine Ev.seq ?_
  refine Ev.reg (fun _ => rfl) ?_
  refine Ev.nxk (mvO (lslL (L' := ((((s1_3.set s1_2.toNat (Tally.mk s1_1 x38.Holder x38.Cut x38.Amount x38.Left)).set s1_2.toNat (Tally.mk x55.Debtor (IntKind.i64.wrap (s1_1 + 1)) x55.Cut x55.Amount x55.Left)).set s1_2.toNat (Tally.mk x72.Debtor x72.Holder (IntKind.i64.wrap ((IntKind.i64.wrap (s1_1 + 1)) + 1)) x72.Amount x72.Left)).set s1_2.toNat (Tally.mk x89.Debtor x89.Holder x89.Cut (IntKind.i64.wrap ((IntKind.i64.wrap ((IntKind.i64.wrap (s1_1 + 1)) + 1)) + 1)) x89.Left)).length) h103 (by simp [hl30]))) ?_
  refine Ev.nxk (mvO h105) ?_
  refine Ev.nxk (mvO h104) ?_
  obtain ⟨x106, hx107, h⟩ := bind_some h
  refine Ev.nxk (ixO rfl o93 rfl rfl (rd_get hx107).1 (rd_lt hx107).2) ?_
  refine Ev.nxk (faO rfl o93 (by simp [hl30])) ?_
  refine Ev.nxput (stR (u := x106) (u' := (Tally.mk x106.Debtor x106.Holder x106.Cut x106.Amount (IntKind.i64.wrap ((IntKind.i64.wrap ((IntKind.i64.wrap ((IntKind.i64.wrap (s1_1 + 1)) + 1)) + 1)) + 1)))) rfl rfl o93 rfl (by rw [Nat.zero_add]; exact (rd_get hx107).2) ⟨rfl, ble rfl⟩ rfl rfl) ?_
  intro M108 hM109
  rw [Nat.zero_add] at hM109
  have o110 : M108[j1]? = some (.live ⟨.grow, 156, 5, (((((s1_3.set s1_2.toNat (Tally.mk s1_1 x38.Holder x38.Cut x38.Amount x38.Left)).set s1_2.toNat (Tally.mk x55.Debtor (IntKind.i64.wrap (s1_1 + 1)) x55.Cut x55.Amount x55.Left)).set s1_2.toNat (Tally.mk x72.Debtor x72.Holder (IntKind.i64.wrap ((IntKind.i64.wrap (s1_1 + 1)) + 1)) x72.Amount x72.Left)).set s1_2.toNat (Tally.mk x89.Debtor x89.Holder x89.Cut (IntKind.i64.wrap ((IntKind.i64.wrap ((IntKind.i64.wrap (s1_1 + 1)) + 1)) + 1)) x89.Left)).set s1_2.toNat (Tally.mk x106.Debtor x106.Holder x106.Cut x106.Amount (IntKind.i64.wrap ((IntKind.i64.wrap ((IntKind.i64.wrap ((IntKind.i64.wrap (s1_1 + 1)) + 1)) + 1)) + 1)))).map Tally.c⟩) := set_same hM109 o93
  have fr111 := Fr.setIn fr94 hM109 (by simp)
  have hx112 := rd_set (u' := (Tally.mk x106.Debtor x106.Holder x106.Cut x106.Amount (IntKind.i64.wrap ((IntKind.i64.wrap ((IntKind.i64.wrap ((IntKind.i64.wrap (s1_1 + 1)) + 1)) + 1)) + 1)))) hx107
  refine Ev.rend ?_
  intro e113 he114
  have h115 := envp (t := 0) he114 rfl h103
  have h116 := envp (t := 1) he114 rfl h104
  have h117 := envp (t := 5) he114 rfl h105
  clear h103 h104 h105
  refine Ev.kseqN ?_
  refine Ev.reg (fun _ => rfl) ?_
  refine Ev.nxk (mvO h116) ?_
  refine Ev.nxk (bAdd rfl rfl) ?_
  refine Ev.nxk (mvO rfl) ?_
  refine Ev.rend ?_
  intro e118 he119
  have h120 := envp (t := 0) he119 rfl h115
  have h121 : eget e118 1 = .int .i64 (IntKind.i64.wrap ((IntKind.i64.wrap ((IntKind.i64.wrap ((IntKind.i64.wrap ((IntKind.i64.wrap (s1_1 + 1)) + 1)) + 1)) + 1)) + 1)) := envp he119 rfl rfl
  have h122 := envp (t := 5) he119 rfl h117
  clear h115 h117
  refine Ev.kblkN ?_
  refine Ev.kseqN ?_
  refine Ev.reg (fun _ => rfl) ?_
  refine Ev.nxk (mvO h122) ?_
  refine Ev.nxk (bAdd rfl rfl) ?_
  refine Ev.nxk (mvO rfl) ?_
  refine Ev.rend ?_
  intro e123 he124
  have h125 := envp (t := 0) he124 rfl h120
  have h126 := envp (t := 1) he124 rfl h121
  have h127 : eget e123 5 = .int .i64 (IntKind.i64.wrap (s1_2 + 1)) := envp he124 rfl rfl
  clear h120 h121
  cases h
  exact Ev.kid (bQ_n (RS := (laws_markTallyS_l_b1_RS a1 j1 M0)) (RR := (laws_markTallyS_l_b1_RR a1 j1 M0)) (And.intro (lslL (L' := (((((s1_3.set s1_2.toNat (Tally.mk s1_1 x38.Holder x38.Cut x38.Amount x38.Left)).set s1_2.toNat (Tally.mk x55.Debtor (IntKind.i64.wrap (s1_1 + 1)) x55.Cut x55.Amount x55.Left)).set s1_2.toNat (Tally.mk x72.Debtor x72.Holder (IntKind.i64.wrap ((IntKind.i64.wrap (s1_1 + 1)) + 1)) x72.Amount x72.Left)).set s1_2.toNat (Tally.mk x89.Debtor x89.Holder x89.Cut (IntKind.i64.wrap ((IntKind.i64.wrap ((IntKind.i64.wrap (s1_1 + 1)) + 1)) + 1)) x89.Left)).set s1_2.toNat (Tally.mk x106.Debtor x106.Holder x106.Cut x106.Amount (IntKind.i64.wrap ((IntKind.i64.wrap ((IntKind.i64.wrap ((IntKind.i64.wrap (s1_1 + 1)) + 1)) + 1)) + 1)))).length) h125 (by simp [hl30])) (And.intro h126 (And.intro h127 (And.intro o110 (And.intro fr111 (by first | rfl | simp [hl30])))))))
 refine Ev.condF h36 hb37 ?_
 refine Ev.ex ?_
 refine Ev.kseqE ?_
 cases h
 exact Ev.kid (bQ_x (RS := (laws_markTallyS_l_b1_RS a1 j1 M0)) (RR := (laws_markTallyS_l_b1_RR a1 j1 M0)) (by intro h; cases h) (And.intro rfl (And.intro h34 (And.intro o28 (And.intro fr29 (by first | rfl | simp [hl30]))))))
noncomputable def laws_markTallyS_l (a1 : List Tally) (a2 : Int) : Option (Int × (List Tally)) :=
 (Lw (laws_markTallyS_l_b1) (a2, 0, a1)).bind fun (y133, y134) =>
 some (y133, y134)
def laws_markTallyS_l_Q (a1 : List Tally) (a2 : Int) (j1 : Nat) (M0 : Mem) (r : Int × (List Tally)) (p : AV × Mem) : Prop := p.1 = .int .i64 r.1 ∧ p.2[j1]? = some (.live ⟨.grow, 156, 5, r.2.map Tally.c⟩) ∧ Fr [j1] M0 p.2 ∧ r.2.length = a1.length
theorem laws_markTallyS_l_ok (a1 : List Tally) (a2 : Int) (j1 : Nat) (M0 : Mem) (oP1 : M0[j1]? = some (.live ⟨.grow, 156, 5, a1.map Tally.c⟩)) (r : Int × (List Tally)) (h : laws_markTallyS_l a1 a2 = some r) : Ev (fun k => CN k 70 [.lsl j1 a1.length 0 a1.length, .int .i64 a2] M0) (laws_markTallyS_l_Q a1 a2 j1 M0 r) := by
 unfold laws_markTallyS_l at h
 have fr0 : Fr [j1] M0 M0 := Fr.refl
 refine Ev.enter (F := fun k => f70 (CN k) k) (fun k => callN_eq rfl Try.func70 rfl rfl rfl (by decide +kernel) (f70_eq _ _)) ?_
 refine Ev.seq ?_
 refine Ev.reg (fun _ => rfl) ?_
 refine Ev.nxk (mvO rfl) ?_
 refine Ev.rend ?_
 intro e1 he2
 have h3 : eget e1 0 = .lsl j1 a1.length 0 a1.length := envp he2 rfl rfl
 have h4 : eget e1 1 = .int .i64 a2 := envp he2 rfl rfl
 refine Ev.kseqN ?_
 refine Ev.seq ?_
 refine Ev.seq ?_
 refine Ev.reg (fun _ => rfl) ?_
 refine Ev.nxk (mvO rfl) ?_
 refine Ev.rend ?_
 intro e5 he6
 have h7 := envp (t := 0) he6 rfl h3
 have h8 : eget e5 1 = .int .i64 a2 := envp he6 rfl h4
 have h9 : eget e5 5 = .int .i64 0 := envp he6 rfl rfl
 clear h3 h4
 refine Ev.kseqN ?_
 refine Ev.blk ?_
 obtain ⟨⟨y133, y134⟩, hr129, h⟩ := bind_some h
 refine Ev.loop (RS := laws_markTallyS_l_b1_RS a1 j1 M0) (RR := laws_markTallyS_l_b1_RR a1 j1 M0) (fun s r h e M hs => laws_markTallyS_l_b1_ok a1 j1 M0 s r h e M hs) hr129 (And.intro h7 (And.intro h8 (And.intro h9 (And.intro oP1 (And.intro fr0 rfl))))) ?_
 intro x e131 M132 hq130
 obtain ⟨rfl, h135, o136, fr137, hl138⟩ := hq130
 refine Ev.kblkE ?_
 refine Ev.kseqN ?_
 refine Ev.seq ?_
 refine Ev.reg (fun _ => rfl) ?_
 refine Ev.nxk (mvO h135) ?_
 refine Ev.nxk (mvO rfl) ?_
 refine Ev.rend ?_
 intro e139 he140
 have h141 : eget e139 4 = .int .i64 y133 := envp he140 rfl rfl
 clear h135
 refine Ev.kseqN ?_
 refine Ev.ex ?_
 cases h
 exact Ev.kendR (resT h141 res0) (And.intro rfl (And.intro o136 (And.intro fr137 (by first | rfl | simp [hl138]))))
/-! ### loop.example/g01263/laws.markBook (f23) -/
noncomputable def laws_markBook_ll (a1 : Int) (a2 : List Int) (a3 : List Tally) (a4 : Int) : Option (Int × (List Int) × (List Tally)) :=
 (laws_markInt64S_l a2 a4).bind fun (r16, r17) =>
 (laws_markTallyS_l a3 r16).bind fun (r33, r34) =>
 some (r33, r17, r34)
def laws_markBook_ll_Q (a1 : Int) (a2 : List Int) (a3 : List Tally) (a4 : Int) (j1 : Nat) (j2 : Nat) (M0 : Mem) (r : Int × (List Int) × (List Tally)) (p : AV × Mem) : Prop := p.1 = .int .i64 r.1 ∧ p.2[j1]? = some (.live ⟨.grow, 2, 1, r.2.1.map (cI .i64)⟩) ∧ p.2[j2]? = some (.live ⟨.grow, 156, 5, r.2.2.map Tally.c⟩) ∧ Fr [j1, j2] M0 p.2 ∧ r.2.1.length = a2.length ∧ r.2.2.length = a3.length
theorem laws_markBook_ll_ok (a1 : Int) (a2 : List Int) (a3 : List Tally) (a4 : Int) (j1 : Nat) (j2 : Nat) (ne01 : j1 ≠ j2) (M0 : Mem) (oP1 : M0[j1]? = some (.live ⟨.grow, 2, 1, a2.map (cI .i64)⟩)) (oP2 : M0[j2]? = some (.live ⟨.grow, 156, 5, a3.map Tally.c⟩)) (r : Int × (List Int) × (List Tally)) (h : laws_markBook_ll a1 a2 a3 a4 = some r) : Ev (fun k => CN k 23 [.agg [.int .i64 a1, .lsl j1 a2.length 0 a2.length, .lsl j2 a3.length 0 a3.length], .int .i64 a4] M0) (laws_markBook_ll_Q a1 a2 a3 a4 j1 j2 M0 r) := by
 unfold laws_markBook_ll at h
 have fr0 : Fr [j1, j2] M0 M0 := Fr.refl
 refine Ev.enter (F := fun k => f23 (CN k) k) (fun k => callN_eq rfl Try.func23 rfl rfl rfl (by decide +kernel) (f23_eq _ _)) ?_
 refine Ev.seq ?_
 refine Ev.reg (fun _ => rfl) ?_
 refine Ev.nxpush (bxO rfl rfl ⟨rfl, (all1 rfl (all1 (okL oP1 (by simp)) (all1 (okL oP2 (by simp)) all0))), by decide⟩) ?_
 intro M2 hM3
 have nf4 := Nf.mk fr0
 have fr5 := Fr.push fr0 hM3
 have o6 := push_old hM3 oP1
 have ne7 := ne_new oP1
 have o8 := push_old hM3 oP2
 have ne9 := ne_new oP2
 have o10 : M2[M0.length]? = some (.live ⟨.box, 56, 3, [[.int .i64 a1, .lsl j1 a2.length 0 a2.length, .lsl j2 a3.length 0 a3.length]]⟩) := push_new hM3
 refine Ev.nxk (mvO rfl) ?_
 refine Ev.rend ?_
 intro e11 he12
 have h13 : eget e11 1 = .int .i64 a4 := envp he12 rfl rfl
 have h14 : eget e11 2 = .loc M0.length 1 0 0 := envp he12 rfl rfl
 refine Ev.kseqN ?_
 refine Ev.seq ?_
 refine Ev.reg (fun _ => rfl) ?_
 refine Ev.nxk (faO h14 o10 rfl) ?_
 refine Ev.nxk (ldO rfl o10 rfl rfl rfl) ?_
 refine Ev.nxk (mvO h13) ?_
 obtain ⟨⟨r16, r17⟩, hx15, h⟩ := bind_some h
 refine Ev.nxw (Ev.callW rfl (cns rfl (cns rfl rfl)) (laws_markInt64S_l_ok a2 a4 j1 M2 o6 _ hx15)) ?_
 intro v20 M18 hq19
 obtain ⟨hv20, o21, fr22, hl23⟩ := hq19
 have hv20 : v20 = .int .i64 r16 := hv20
 subst hv20
 have o24 : M18[j1]? = some (.live ⟨.grow, 2, 1, r17.map (cI .i64)⟩) := o21
 have hl23 : r17.length = a2.length := hl23
 have o25 : M18[j2]? = some (.live ⟨.grow, 156, 5, a3.map Tally.c⟩) := fr22 _ _ (niC (Ne.symm ne01) niN) o8
 have o26 : M18[M0.length]? = some (.live ⟨.box, 56, 3, [[.int .i64 a1, .lsl j1 a2.length 0 a2.length, .lsl j2 a3.length 0 a3.length]]⟩) := fr22 _ _ (niC (Ne.symm ne7) niN) o10
 have fr27 : Fr [j1, j2] M0 M18 := Fr.call fr5 fr22 (fwI (by simp) fwN)
 refine Ev.nxk (mvO rfl) ?_
 refine Ev.rend ?_
 intro e28 he29
 have h30 : eget e28 1 = .int .i64 r16 := envp he29 rfl rfl
 have h31 := envp (t := 2) he29 rfl h14
 clear h14
 refine Ev.kseqN ?_
 refine Ev.seq ?_
 refine Ev.reg (fun _ => rfl) ?_
 refine Ev.nxk (faO h31 o26 rfl) ?_
 refine Ev.nxk (ldO rfl o26 rfl rfl rfl) ?_
 refine Ev.nxk (mvO h30) ?_
 obtain ⟨⟨r33, r34⟩, hx32, h⟩ := bind_some h
 refine Ev.nxw (Ev.callW rfl (cns rfl (cns rfl rfl)) (laws_markTallyS_l_ok a3 r16 j2 M18 o25 _ hx32)) ?_
 intro v37 M35 hq36
 obtain ⟨hv37, o38, fr39, hl40⟩ := hq36
 have hv37 : v37 = .int .i64 r33 := hv37
 subst hv37
 have o41 : M35[j2]? = some (.live ⟨.grow, 156, 5, r34.map Tally.c⟩) := o38
 have hl40 : r34.length = a3.length := hl40
 have o42 : M35[j1]? = some (.live ⟨.grow, 2, 1, r17.map (cI .i64)⟩) := fr39 _ _ (niC ne01 niN) o24
 have o43 : M35[M0.length]? = some (.live ⟨.box, 56, 3, [[.int .i64 a1, .lsl j1 a2.length 0 a2.length, .lsl j2 a3.length 0 a3.length]]⟩) := fr39 _ _ (niC (Ne.symm ne9) niN) o26
 have fr44 : Fr [j1, j2] M0 M35 := Fr.call fr27 fr39 (fwI (by simp) fwN)
 refine Ev.nxk (mvO rfl) ?_
 refine Ev.rend ?_
 intro e45 he46
 have h47 : eget e45 1 = .int .i64 r33 := envp he46 rfl rfl
 clear h31
 refine Ev.kseqN ?_
 refine Ev.seq ?_
 refine Ev.reg (fun _ => rfl) ?_
 refine Ev.nxk (mvO h47) ?_
 refine Ev.nxk (mvO rfl) ?_
 refine Ev.rend ?_
 intro e48 he49
 have h50 : eget e48 4 = .int .i64 r33 := envp he49 rfl rfl
 clear h47
 refine Ev.kseqN ?_
 refine Ev.ex ?_
 cases h
 exact Ev.kendR (resT h50 res0) (And.intro rfl (And.intro o42 (And.intro o41 (And.intro fr44 (And.intro (by first | rfl | simp [hl23, hl40]) (by first | rfl | simp [hl23, hl40]))))))
end Go.Proofs.Ytfabokkhdalbead
