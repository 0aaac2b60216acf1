/- Printed by a program of ours (ext.py). -/
import Derived.Test.YtaocojognonkcabLnkNewBookx0
set_option linter.unusedVariables false
set_option maxRecDepth 100000
set_option maxHeartbeats 2000000
namespace Go.Proofs.Ytaocojognonkcab
open Go Go.Ab
/-! ### loop.example/g01263/laws.FnExactNewBook (f3) -/
def laws_FnExactNewBook_c1_Q (a1 : List Int) (r15 : List Int) (r36 : List Int) (r52 : List Int) (i901_1 : Nat) (i901_2 : Nat) (i901_3 : Nat) (i901_4 : Nat) (i901_5 : Nat) (g : Bool) (q : Out) : Prop := q.1 = .nrm ∧ eget q.2.1 0 = .sl none (a1.map (cI .i64)) ∧ eget q.2.1 3 = .loc i901_2 1 0 0 ∧ eget q.2.1 4 = .int .i64 0 ∧ eget q.2.1 5 = .lsl i901_3 r36.length 0 r36.length ∧ eget q.2.1 6 = .loc i901_5 1 0 0 ∧ eget q.2.1 7 = .int .i64 0 ∧ eget q.2.1 37 = .bool g ∧ q.2.2[i901_1]? = some (.live ⟨.grow, 2, 1, r15.map (cI .i64)⟩) ∧ q.2.2[i901_2]? = some (.live ⟨.box, 25, 3, [[.int .i64 0, .lsl i901_1 r15.length 0 r15.length, .nils]]⟩) ∧ q.2.2[i901_3]? = some (.live ⟨.grow, 2, 1, r36.map (cI .i64)⟩) ∧ q.2.2[i901_4]? = some (.live ⟨.grow, 2, 1, r52.map (cI .i64)⟩) ∧ q.2.2[i901_5]? = some (.live ⟨.box, 25, 3, [[.int .i64 0, .lsl i901_4 r52.length 0 r52.length, .nils]]⟩)
def laws_FnExactNewBook_c2_Q (a1 : List Int) (r15 : List Int) (r52 : List Int) (i902_1 : Nat) (i902_2 : Nat) (i902_3 : Nat) (i902_4 : Nat) (g : Bool) (q : Out) : Prop := q.1 = .nrm ∧ eget q.2.1 0 = .sl none (a1.map (cI .i64)) ∧ eget q.2.1 3 = .loc i902_2 1 0 0 ∧ eget q.2.1 4 = .int .i64 0 ∧ eget q.2.1 6 = .loc i902_4 1 0 0 ∧ eget q.2.1 58 = .bool g ∧ q.2.2[i902_1]? = some (.live ⟨.grow, 2, 1, r15.map (cI .i64)⟩) ∧ q.2.2[i902_2]? = some (.live ⟨.box, 25, 3, [[.int .i64 0, .lsl i902_1 r15.length 0 r15.length, .nils]]⟩) ∧ q.2.2[i902_3]? = some (.live ⟨.grow, 2, 1, r52.map (cI .i64)⟩) ∧ q.2.2[i902_4]? = some (.live ⟨.box, 25, 3, [[.int .i64 0, .lsl i902_3 r52.length 0 r52.length, .nils]]⟩)
def laws_FnExactNewBook_c3_Q (r52 : List Int) (r224 : Int) (r225 : List Int) (i903_1 : Nat) (i903_2 : Nat) (i903_3 : Nat) (i903_4 : Nat) (i903_5 : Nat) (i903_6 : Nat) (g : Bool) (q : Out) : Prop := q.1 = .nrm ∧ eget q.2.1 6 = .loc i903_4 1 0 0 ∧ eget q.2.1 9 = .int .i64 r224 ∧ eget q.2.1 84 = .bool g ∧ q.2.2[i903_3]? = some (.live ⟨.grow, 2, 1, r225.map (cI .i64)⟩) ∧ q.2.2[i903_4]? = some (.live ⟨.box, 25, 3, [[.int .i64 0, .lsl i903_3 r52.length 0 r52.length, .nils]]⟩)
def laws_FnExactNewBook_c4_Q (r52 : List Int) (r224 : Int) (r225 : List Int) (i904_1 : Nat) (i904_2 : Nat) (i904_3 : Nat) (i904_4 : Nat) (i904_5 : Nat) (g : Unit) (q : Out) : Prop := q.1 = .nrm ∧ eget q.2.1 6 = .loc i904_4 1 0 0 ∧ eget q.2.1 9 = .int .i64 r224 ∧ eget q.2.1 84 = .bool true ∧ q.2.2[i904_3]? = some (.live ⟨.grow, 2, 1, r225.map (cI .i64)⟩) ∧ q.2.2[i904_4]? = some (.live ⟨.box, 25, 3, [[.int .i64 0, .lsl i904_3 r52.length 0 r52.length, .nils]]⟩)
def laws_FnExactNewBook_c5_Q (a1 : List Int) (r15 : List Int) (r36 : List Int) (i905_1 : Nat) (i905_2 : Nat) (i905_3 : Nat) (i905_4 : Nat) (g : Unit) (q : Out) : Prop := q.1 = .nrm ∧ eget q.2.1 0 = .sl none (a1.map (cI .i64)) ∧ eget q.2.1 3 = .loc i905_2 1 0 0 ∧ eget q.2.1 4 = .int .i64 0 ∧ eget q.2.1 5 = .lsl i905_3 r36.length 0 r36.length ∧ eget q.2.1 6 = .loc i905_4 1 0 0 ∧ eget q.2.1 7 = .int .i64 2 ∧ eget q.2.1 37 = .bool true ∧ q.2.2[i905_1]? = some (.live ⟨.grow, 2, 1, r15.map (cI .i64)⟩) ∧ q.2.2[i905_2]? = some (.live ⟨.box, 25, 3, [[.int .i64 0, .lsl i905_1 r15.length 0 r15.length, .nils]]⟩) ∧ q.2.2[i905_3]? = some (.live ⟨.grow, 2, 1, r36.map (cI .i64)⟩) ∧ q.2.2[i905_4]? = some (.live ⟨.box, 25, 3, [[.int .i64 0, .nils, .nils]]⟩)
def laws_FnExactNewBook_c6_Q (a1 : List Int) (r544 : List Int) (r558 : List Int) (i906_1 : Nat) (i906_2 : Nat) (i906_3 : Nat) (i906_4 : Nat) (g : Unit) (q : Out) : Prop := q.1 = .nrm ∧ eget q.2.1 0 = .sl none (a1.map (cI .i64)) ∧ eget q.2.1 3 = .loc i906_1 1 0 0 ∧ eget q.2.1 4 = .int .i64 2 ∧ eget q.2.1 5 = .lsl i906_2 r544.length 0 r544.length ∧ eget q.2.1 6 = .loc i906_4 1 0 0 ∧ eget q.2.1 7 = .int .i64 0 ∧ eget q.2.1 37 = .bool true ∧ q.2.2[i906_1]? = some (.live ⟨.box, 25, 3, [[.int .i64 0, .nils, .nils]]⟩) ∧ q.2.2[i906_2]? = some (.live ⟨.grow, 2, 1, r544.map (cI .i64)⟩) ∧ q.2.2[i906_3]? = some (.live ⟨.grow, 2, 1, r558.map (cI .i64)⟩) ∧ q.2.2[i906_4]? = some (.live ⟨.box, 25, 3, [[.int .i64 0, .lsl i906_3 r558.length 0 r558.length, .nils]]⟩)
def laws_FnExactNewBook_c7_Q (a1 : List Int) (r544 : List Int) (i907_1 : Nat) (i907_2 : Nat) (i907_3 : Nat) (g : Bool) (q : Out) : Prop := q.1 = .nrm ∧ eget q.2.1 0 = .sl none (a1.map (cI .i64)) ∧ eget q.2.1 3 = .loc i907_1 1 0 0 ∧ eget q.2.1 4 = .int .i64 2 ∧ eget q.2.1 5 = .lsl i907_2 r544.length 0 r544.length ∧ eget q.2.1 6 = .loc i907_3 1 0 0 ∧ eget q.2.1 7 = .int .i64 2 ∧ eget q.2.1 37 = .bool g ∧ q.2.2[i907_1]? = some (.live ⟨.box, 25, 3, [[.int .i64 0, .nils, .nils]]⟩) ∧ q.2.2[i907_2]? = some (.live ⟨.grow, 2, 1, r544.map (cI .i64)⟩) ∧ q.2.2[i907_3]? = some (.live ⟨.box, 25, 3, [[.int .i64 0, .nils, .nils]]⟩)
def laws_FnExactNewBook_c8_Q (a1 : List Int) (i908_1 : Nat) (i908_2 : Nat) (g : Bool) (q : Out) : Prop := q.1 = .nrm ∧ eget q.2.1 0 = .sl none (a1.map (cI .i64)) ∧ eget q.2.1 3 = .loc i908_1 1 0 0 ∧ eget q.2.1 4 = .int .i64 2 ∧ eget q.2.1 6 = .loc i908_2 1 0 0 ∧ eget q.2.1 58 = .bool g ∧ q.2.2[i908_1]? = some (.live ⟨.box, 25, 3, [[.int .i64 0, .nils, .nils]]⟩) ∧ q.2.2[i908_2]? = some (.live ⟨.box, 25, 3, [[.int .i64 0, .nils, .nils]]⟩)
def laws_FnExactNewBook_c9_Q (r784 : Int) (i909_1 : Nat) (i909_2 : Nat) (i909_3 : Nat) (i909_4 : Nat) (g : Unit) (q : Out) : Prop := q.1 = .nrm ∧ eget q.2.1 6 = .loc i909_2 1 0 0 ∧ eget q.2.1 9 = .int .i64 r784 ∧ eget q.2.1 84 = .bool true ∧ q.2.2[i909_2]? = some (.live ⟨.box, 25, 3, [[.int .i64 0, .nils, .nils]]⟩)
def laws_FnExactNewBook_c10_Q (r784 : Int) (i910_1 : Nat) (i910_2 : Nat) (i910_3 : Nat) (g : Bool) (q : Out) : Prop := q.1 = .nrm ∧ eget q.2.1 6 = .loc i910_2 1 0 0 ∧ eget q.2.1 9 = .int .i64 r784 ∧ eget q.2.1 84 = .bool g ∧ q.2.2[i910_2]? = some (.live ⟨.box, 25, 3, [[.int .i64 0, .nils, .nils]]⟩)
noncomputable def laws_FnExactNewBook (a1 : List Int) : Option Bool :=
  if (decide ((a1.length : Int) > 1048576)) = true then
    some true
  else
    (laws_toInt64S a1).bind fun r13 =>
    (spec_NewBook r13).bind fun r => match r with
    | (.inl r15) =>
      (laws_toInt64S a1).bind fun r36 =>
      (impl_NewBook r36).bind fun r => match r with
      | (.inl r52) =>
        ((laws_eqBook (Book.mk 0 r52 ([] : List Tally)) (Book.mk 0 r15 ([] : List Tally))).bind fun r91 =>
        if r91 = true then
          some false
        else
          some true).bind fun y113 =>
        if y113 = true then
          some false
        else
          (laws_toInt64S a1).bind fun r131 =>
          (laws_eqInt64S r36 r131).bind fun r133 =>
          if r133 = true then
            (laws_markInt64S_l r36 1).bind fun (r154, r155) =>
            (if (decide (r154 < 0)) = true then
              some true
            else
              (laws_eqBook (Book.mk 0 r52 ([] : List Tally)) (Book.mk 0 r15 ([] : List Tally))).bind fun r184 =>
              if r184 = true then
                some false
              else
                some true).bind fun y202 =>
            if y202 = true then
              some false
            else
              (laws_markBook_ln 0 r52 1).bind fun (r224, r225) =>
              (laws_heldBook (Book.mk 0 r225 ([] : List Tally)) 1).bind fun r252 =>
              if (decide (r252 < 0)) = true then
                some false
              else
                if (r252 != r224) = true then
                  some false
                else
                  (laws_toInt64S a1).bind fun r287 =>
                  (impl_NewBook r287).bind fun r => match r with
                  | (.inl r289) =>
                    ((laws_eqBook (Book.mk 0 r289 ([] : List Tally)) (Book.mk 0 r15 ([] : List Tally))).bind fun r333 =>
                    if r333 = true then
                      some false
                    else
                      some true).bind fun y347 =>
                    if y347 = true then
                      some false
                    else
                      (laws_heldBook (Book.mk 0 r225 ([] : List Tally)) 1).bind fun r363 =>
                      if (decide (r363 < 0)) = true then
                        some false
                      else
                        if (r363 != r224) = true then
                          some false
                        else
                          some true
                  | (.inr _) =>
                    ((laws_eqBook (Book.mk 0 ([] : List Int) ([] : List Tally)) (Book.mk 0 r15 ([] : List Tally))).bind fun r424 =>
                    if r424 = true then
                      some ()
                    else
                      some ()).bind fun _ =>
                    some false
          else
            some false
      | (.inr _) =>
        ((laws_eqBook (Book.mk 0 ([] : List Int) ([] : List Tally)) (Book.mk 0 r15 ([] : List Tally))).bind fun r489 =>
        if r489 = true then
          some ()
        else
          some ()).bind fun _ =>
        some false
    | (.inr _) =>
      (laws_toInt64S a1).bind fun r544 =>
      (impl_NewBook r544).bind fun r => match r with
      | (.inl r558) =>
        ((laws_eqBook (Book.mk 0 r558 ([] : List Tally)) (Book.mk 0 ([] : List Int) ([] : List Tally))).bind fun r592 =>
        if r592 = true then
          some ()
        else
          some ()).bind fun _ =>
        some false
      | (.inr _) =>
        ((laws_eqBook (Book.mk 0 ([] : List Int) ([] : List Tally)) (Book.mk 0 ([] : List Int) ([] : List Tally))).bind fun r657 =>
        if r657 = true then
          some false
        else
          some true).bind fun y679 =>
        if y679 = true then
          some false
        else
          (laws_toInt64S a1).bind fun r695 =>
          (laws_eqInt64S r544 r695).bind fun r697 =>
          if r697 = true then
            (laws_markInt64S_l r544 1).bind fun (r718, r719) =>
            (if (decide (r718 < 0)) = true then
              some true
            else
              (laws_eqBook (Book.mk 0 ([] : List Int) ([] : List Tally)) (Book.mk 0 ([] : List Int) ([] : List Tally))).bind fun r746 =>
              if r746 = true then
                some false
              else
                some true).bind fun y764 =>
            if y764 = true then
              some false
            else
              (laws_markBook_nn 0 1).bind fun r784 =>
              (laws_heldBook (Book.mk 0 ([] : List Int) ([] : List Tally)) 1).bind fun r807 =>
              if (decide (r807 < 0)) = true then
                some false
              else
                if (r807 != r784) = true then
                  some false
                else
                  (laws_toInt64S a1).bind fun r842 =>
                  (impl_NewBook r842).bind fun r => match r with
                  | (.inl r844) =>
                    ((laws_eqBook (Book.mk 0 r844 ([] : List Tally)) (Book.mk 0 ([] : List Int) ([] : List Tally))).bind fun r878 =>
                    if r878 = true then
                      some ()
                    else
                      some ()).bind fun _ =>
                    some false
                  | (.inr _) =>
                    ((laws_eqBook (Book.mk 0 ([] : List Int) ([] : List Tally)) (Book.mk 0 ([] : List Int) ([] : List Tally))).bind fun r928 =>
                    if r928 = true then
                      some false
                    else
                      some true).bind fun y942 =>
                    if y942 = true then
                      some false
                    else
                      (laws_heldBook (Book.mk 0 ([] : List Int) ([] : List Tally)) 1).bind fun r957 =>
                      if (decide (r957 < 0)) = true then
                        some false
                      else
                        if (r957 != r784) = true then
                          some false
                        else
                          some true
          else
            some false
def laws_FnExactNewBook_enc (r : Bool) : AV := .bool r
theorem laws_FnExactNewBook_ok (a1 : List Int) (r : Bool) (h : laws_FnExactNewBook a1 = some r) : Ev (fun k => CN k 3 [.sl none (a1.map (cI .i64))] []) (fun p => rRes p.2 p.1 = laws_FnExactNewBook_enc r) := by
  unfold laws_FnExactNewBook at h
  refine Ev.enter (F := fun k => f3 (CN k) k) (fun k => callN_eq rfl Try.func3 rfl rfl rfl (by decide +kernel) (f3_eq _ _)) ?_
  refine Ev.seq ?_
  refine Ev.reg (fun _ => rfl) ?_
  refine Ev.nxk (mvO rfl) ?_
  refine Ev.rend ?_
  intro e1 he2
  have h3 : eget e1 0 = .sl none (a1.map (cI .i64)) := envp he2 rfl rfl
  refine Ev.kseqN ?_
  refine Ev.seq ?_
  refine Ev.seq ?_
  refine Ev.reg (fun _ => rfl) ?_
  refine Ev.nxk (mvO h3) ?_
  refine Ev.nxk (lnS Try.underlying22 rfl) ?_
  refine Ev.nxk (bGtr rfl rfl) ?_
  refine Ev.rend ?_
  intro e4 he5
  have h6 : eget e4 0 = .sl none (a1.map (cI .i64)) := envp he5 rfl h3
  have h7 : eget e4 15 = .bool (decide ((a1.length : Int) > 1048576)) := envp he5 rfl rfl
  clear h3
  refine Ev.kseqN ?_
  rcases ite_some h with ⟨hb8, h⟩ | ⟨hb8, h⟩
  · refine Ev.condT h7 hb8 ?_
    refine Ev.seq ?_
    refine Ev.reg (fun _ => rfl) ?_
    refine Ev.nxk (mvO rfl) ?_
    refine Ev.rend ?_
    intro e9 he10
    have h11 : eget e9 2 = .bool true := envp he10 rfl rfl
    clear h6 h7
    refine Ev.kseqN ?_
    refine Ev.ex ?_
    refine Ev.kseqR ?_
    cases h
    exact Ev.kendR (resT h11 res0) rfl
  · refine Ev.condF h7 hb8 ?_
    refine Ev.ex ?_
    refine Ev.kseqN ?_
    refine Ev.seq ?_
    refine Ev.reg (fun _ => rfl) ?_
    refine Ev.nxk (mvO h6) ?_
    obtain ⟨r13, hx12, h⟩ := bind_some h
    refine Ev.nxck (Ev.call (v := .sl (some 2) (r13.map (cI .i64))) rfl (cns rfl rfl) rfl (laws_toInt64S_ok a1 _ hx12) (fun h => nomatch (show false = true from h))) ?_
    obtain ⟨q995, hx14, h⟩ := bind_some h
    rcases q995 with r15 | _
    · refine Ev.nxcp (Ev.callT (v := .tup [.agg [.int .i64 0, .sl (some 2) (r15.map (cI .i64)), .nils], .int .i64 0]) rfl (cns rfl rfl) rfl (spec_NewBook_ok r13 _ hx14) (th_gen (v' := .tup [.agg [.int .i64 0, .lsl ([] : Mem).length r15.length 0 r15.length, .nils], .int .i64 0]) (l := [⟨.grow, 2, 1, r15.map (cI .i64)⟩]) (own_tup (oa1 (own2_agg (oa1 rfl (oa1 (own1_row' (c := (cI .i64)) (fun _ => rfl)) (oa1 rfl oa0)))) (oa1 rfl oa0))) (by simp [thaw, thaw2, thaw1, thawL, co2]) rfl rfl)) ?_
      intro M17 hM18
      have o19 : M17[([] : Mem).length]? = some (.live ⟨.grow, 2, 1, r15.map (cI .i64)⟩) := push_at hM18 0 rfl
      refine Ev.nxk (mvO rfl) ?_
      refine Ev.nxk (exT rfl rfl) ?_
      refine Ev.nxk (exT rfl rfl) ?_
      refine Ev.nxpush (alO zero25) ?_
      intro M21 hM22
      have o23 := push_old hM22 o19
      have ne24 := ne_new o19
      have o25 : M21[M17.length]? = some (.live ⟨.box, 25, 3, [[.int .i64 0, .nils, .nils]]⟩) := push_new hM22
      refine Ev.nxput (stO rfl rfl o25 rfl rfl ⟨rfl, ble rfl⟩ (all1 rfl (all1 (okL o23 (by simp)) (all1 rfl all0))) rfl) ?_
      intro M26 hM27
      have o28 := set_ne hM27 ne24 o23
      have o29 : M26[M17.length]? = some (.live ⟨.box, 25, 3, [[.int .i64 0, .lsl ([] : Mem).length r15.length 0 r15.length, .nils]]⟩) := set_same hM27 o25
      refine Ev.nxk (mvO rfl) ?_
      refine Ev.rend ?_
      intro e30 he31
      have h32 : eget e30 0 = .sl none (a1.map (cI .i64)) := envp he31 rfl h6
      have h33 : eget e30 3 = .loc M17.length 1 0 0 := envp he31 rfl rfl
      have h34 : eget e30 4 = .int .i64 0 := envp he31 rfl rfl
      clear h6 h7
      refine Ev.kseqN ?_
      refine Ev.seq ?_
      refine Ev.reg (fun _ => rfl) ?_
      refine Ev.nxk (mvO h32) ?_
      obtain ⟨r36, hx35, h⟩ := bind_some h
      refine Ev.nxcp (Ev.callT (v := .sl (some 2) (r36.map (cI .i64))) rfl (cns rfl rfl) rfl (laws_toInt64S_ok a1 _ hx35) (th_gen (v' := .lsl M26.length r36.length 0 r36.length) (l := [⟨.grow, 2, 1, r36.map (cI .i64)⟩]) (ownA_row (c := (cI .i64)) (fun _ => rfl)) (by simp [thaw, thaw2, thaw1, thawL, co2]) rfl rfl)) ?_
      intro M38 hM39
      have o40 := push_old hM39 o28
      have o41 := push_old hM39 o29
      have ne42 : ([] : Mem).length ≠ M26.length := by have := lt_of_get o28; omega
      have ne43 : M17.length ≠ M26.length := by have := lt_of_get o29; omega
      have o44 : M38[M26.length]? = some (.live ⟨.grow, 2, 1, r36.map (cI .i64)⟩) := push_at hM39 0 rfl
      refine Ev.nxk (mvO rfl) ?_
      refine Ev.rend ?_
      intro e45 he46
      have h47 : eget e45 0 = .sl none (a1.map (cI .i64)) := envp he46 rfl h32
      have h48 : eget e45 3 = .loc M17.length 1 0 0 := envp he46 rfl h33
      have h49 : eget e45 4 = .int .i64 0 := envp he46 rfl h34
      have h50 : eget e45 5 = .lsl M26.length r36.length 0 r36.length := envp he46 rfl rfl
      clear h32 h33 h34
      refine Ev.kseqN ?_
      refine Ev.seq ?_
      refine Ev.reg (fun _ => rfl) ?_
      refine Ev.nxk (mvO h50) ?_
      obtain ⟨q528, hx51, h⟩ := bind_some h
      rcases q528 with r52 | _
      · refine Ev.nxcp (Ev.callT (v := .tup [.agg [.int .i64 0, .sl (some 2) (r52.map (cI .i64)), .nils], .int .i64 0]) rfl (cns rfl rfl) (ra1 (ra1_row o44 rfl (cI_fl _)) ra0) (impl_NewBook_ok r36 _ hx51) (th_gen (v' := .tup [.agg [.int .i64 0, .lsl M38.length r52.length 0 r52.length, .nils], .int .i64 0]) (l := [⟨.grow, 2, 1, r52.map (cI .i64)⟩]) (own_tup (oa1 (own2_agg (oa1 rfl (oa1 (own1_row' (c := (cI .i64)) (fun _ => rfl)) (oa1 rfl oa0)))) (oa1 rfl oa0))) (by simp [thaw, thaw2, thaw1, thawL, co2]) rfl rfl)) ?_
        intro M54 hM55
        have o56 := push_old hM55 o40
        have o57 := push_old hM55 o41
        have o58 := push_old hM55 o44
        have ne59 : ([] : Mem).length ≠ M38.length := by have := lt_of_get o40; omega
        have ne60 : M17.length ≠ M38.length := by have := lt_of_get o41; omega
        have ne61 : M26.length ≠ M38.length := by have := lt_of_get o44; omega
        have o62 : M54[M38.length]? = some (.live ⟨.grow, 2, 1, r52.map (cI .i64)⟩) := push_at hM55 0 rfl
        refine Ev.nxk (mvO rfl) ?_
        refine Ev.nxk (exT rfl rfl) ?_
        refine Ev.nxk (exT rfl rfl) ?_
        refine Ev.nxpush (alO zero25) ?_
        intro M64 hM65
        have o66 := push_old hM65 o56
        have ne67 := ne_new o56
        have o68 := push_old hM65 o57
        have ne69 := ne_new o57
        have o70 := push_old hM65 o58
        have ne71 := ne_new o58
        have o72 := push_old hM65 o62
        have ne73 := ne_new o62
        have o74 : M64[M54.length]? = some (.live ⟨.box, 25, 3, [[.int .i64 0, .nils, .nils]]⟩) := push_new hM65
        refine Ev.nxput (stO rfl rfl o74 rfl rfl ⟨rfl, ble rfl⟩ (all1 rfl (all1 (okL o72 (by simp)) (all1 rfl all0))) rfl) ?_
        intro M75 hM76
        have o77 := set_ne hM76 ne67 o66
        have o78 := set_ne hM76 ne69 o68
        have o79 := set_ne hM76 ne71 o70
        have o80 := set_ne hM76 ne73 o72
        have o81 : M75[M54.length]? = some (.live ⟨.box, 25, 3, [[.int .i64 0, .lsl M38.length r52.length 0 r52.length, .nils]]⟩) := set_same hM76 o74
        refine Ev.nxk (mvO rfl) ?_
        refine Ev.rend ?_
        intro e82 he83
        have h84 : eget e82 0 = .sl none (a1.map (cI .i64)) := envp he83 rfl h47
        have h85 : eget e82 3 = .loc M17.length 1 0 0 := envp he83 rfl h48
        have h86 : eget e82 4 = .int .i64 0 := envp he83 rfl h49
        have h87 : eget e82 5 = .lsl M26.length r36.length 0 r36.length := envp he83 rfl h50
        have h88 : eget e82 6 = .loc M54.length 1 0 0 := envp he83 rfl rfl
        have h89 : eget e82 7 = .int .i64 0 := envp he83 rfl rfl
        clear h47 h48 h49 h50
        refine Ev.kseqN ?_
        refine Ev.seq ?_
        refine Ev.seq ?_
        obtain ⟨r457, hr458, h⟩ := bind_some h
        refine Ev.cut (Q1 := laws_FnExactNewBook_c1_Q a1 r15 r36 r52 (([] : Mem).length) M17.length M26.length M38.length M54.length r457) (by
            have h := hr458
            refine Ev.reg (fun _ => rfl) ?_
            refine Ev.nxk (ldOA h88 o81 rfl rfl (ble rfl) rfl) ?_
            refine Ev.nxk (ldOA h85 o78 rfl rfl (ble rfl) rfl) ?_
            obtain ⟨r91, hx90, h⟩ := bind_some h
            refine Ev.nxck (Ev.call (v := .bool r91) rfl (cns rfl (cns rfl rfl)) (ra1 (ra_agg (mp1 rfl (mp1 (ra1_row o80 rfl (cI_fl _)) (mp1 rfl mp0)))) (ra1 (ra_agg (mp1 rfl (mp1 (ra1_row o77 rfl (cI_fl _)) (mp1 rfl mp0)))) ra0)) (laws_eqBook_ok (Book.mk 0 r52 ([] : List Tally)) (Book.mk 0 r15 ([] : List Tally)) _ hx90) (fun _ => rfl)) ?_
            refine Ev.nxk (uNot rfl) ?_
            refine Ev.nxk (mvO rfl) ?_
            rcases ite_some h with ⟨hb92, h⟩ | ⟨hb92, h⟩
            · refine Ev.nxk (guF rfl (congrArg Bool.not hb92) (mvO h89)) ?_
              refine Ev.nxk (guF rfl (congrArg Bool.not hb92) (mvO h86)) ?_
              refine Ev.nxk (guF rfl (congrArg Bool.not hb92) (bNeq rfl rfl)) ?_
              refine Ev.nxk (pkF rfl (congrArg Bool.not hb92) rfl) ?_
              refine Ev.rend ?_
              intro e93 he94
              have h95 : eget e93 0 = .sl none (a1.map (cI .i64)) := envp he94 rfl h84
              have h96 : eget e93 3 = .loc M17.length 1 0 0 := envp he94 rfl h85
              have h97 : eget e93 4 = .int .i64 0 := envp he94 rfl h86
              have h98 : eget e93 5 = .lsl M26.length r36.length 0 r36.length := envp he94 rfl h87
              have h99 : eget e93 6 = .loc M54.length 1 0 0 := envp he94 rfl h88
              have h100 : eget e93 7 = .int .i64 0 := envp he94 rfl h89
              have h101 : eget e93 37 = .bool false := envp he94 rfl rfl
              clear h84 h85 h86 h87 h88 h89
              cases h
              exact Ev.kid (show laws_FnExactNewBook_c1_Q a1 r15 r36 r52 (([] : Mem).length) M17.length M26.length M38.length M54.length _ _ from (And.intro rfl (And.intro h95 (And.intro h96 (And.intro h97 (And.intro h98 (And.intro h99 (And.intro h100 (And.intro h101 (And.intro o77 (And.intro o78 (And.intro o79 (And.intro o80 o81)))))))))))))
            · refine Ev.nxk (gsF rfl (congrArg Bool.not hb92)) ?_
              refine Ev.nxk (gsF rfl (congrArg Bool.not hb92)) ?_
              refine Ev.nxk (gsF rfl (congrArg Bool.not hb92)) ?_
              refine Ev.nxk (pkT rfl (congrArg Bool.not hb92) rfl) ?_
              refine Ev.rend ?_
              intro e102 he103
              have h104 : eget e102 0 = .sl none (a1.map (cI .i64)) := envp he103 rfl h84
              have h105 : eget e102 3 = .loc M17.length 1 0 0 := envp he103 rfl h85
              have h106 : eget e102 4 = .int .i64 0 := envp he103 rfl h86
              have h107 : eget e102 5 = .lsl M26.length r36.length 0 r36.length := envp he103 rfl h87
              have h108 : eget e102 6 = .loc M54.length 1 0 0 := envp he103 rfl h88
              have h109 : eget e102 7 = .int .i64 0 := envp he103 rfl h89
              have h110 : eget e102 37 = .bool true := envp he103 rfl rfl
              clear h84 h85 h86 h87 h88 h89
              cases h
              exact Ev.kid (show laws_FnExactNewBook_c1_Q a1 r15 r36 r52 (([] : Mem).length) M17.length M26.length M38.length M54.length _ _ from (And.intro rfl (And.intro h104 (And.intro h105 (And.intro h106 (And.intro h107 (And.intro h108 (And.intro h109 (And.intro h110 (And.intro o77 (And.intro o78 (And.intro o79 (And.intro o80 o81)))))))))))))) ?_
        revert h hr458
        revert r457
        intro y113 hr458 h
        intro x e111 M112 hq456
        obtain ⟨rfl, h114, h115, h116, h117, h118, h119, h120, o121, o122, o123, o124, o125⟩ := hq456
        refine Ev.kseqN ?_
        rcases ite_some h with ⟨hb126, h⟩ | ⟨hb126, h⟩
        · refine Ev.condT h120 hb126 ?_
          refine Ev.seq ?_
          refine Ev.reg (fun _ => rfl) ?_
          refine Ev.nxk (mvO rfl) ?_
          refine Ev.rend ?_
          intro e127 he128
          have h129 : eget e127 2 = .bool false := envp he128 rfl rfl
          clear h114 h115 h116 h117 h118 h119 h120
          refine Ev.kseqN ?_
          refine Ev.ex ?_
          refine Ev.kseqR ?_
          cases h
          exact Ev.kendR (resT h129 res0) rfl
        · refine Ev.condF h120 hb126 ?_
          refine Ev.ex ?_
          refine Ev.kseqN ?_
          refine Ev.seq ?_
          refine Ev.seq ?_
          refine Ev.reg (fun _ => rfl) ?_
          refine Ev.nxk (mvO h117) ?_
          refine Ev.nxk (mvO h114) ?_
          obtain ⟨r131, hx130, h⟩ := bind_some h
          refine Ev.nxck (Ev.call (v := .sl (some 2) (r131.map (cI .i64))) rfl (cns rfl rfl) rfl (laws_toInt64S_ok a1 _ hx130) (fun h => nomatch (show false = true from h))) ?_
          obtain ⟨r133, hx132, h⟩ := bind_some h
          refine Ev.nxck (Ev.call (v := .bool r133) rfl (cns rfl (cns rfl rfl)) (ra1 (ra1_row o123 rfl (cI_fl _)) (ra1 rfl ra0)) (laws_eqInt64S_ok r36 r131 _ hx132) (fun _ => rfl)) ?_
          refine Ev.nxk (uNot rfl) ?_
          refine Ev.rend ?_
          intro e134 he135
          have h136 : eget e134 0 = .sl none (a1.map (cI .i64)) := envp he135 rfl h114
          have h137 : eget e134 3 = .loc M17.length 1 0 0 := envp he135 rfl h115
          have h138 : eget e134 4 = .int .i64 0 := envp he135 rfl h116
          have h139 : eget e134 5 = .lsl M26.length r36.length 0 r36.length := envp he135 rfl h117
          have h140 : eget e134 6 = .loc M54.length 1 0 0 := envp he135 rfl h118
          have h141 : eget e134 7 = .int .i64 0 := envp he135 rfl h119
          have h142 : eget e134 42 = .bool (!r133) := envp he135 rfl rfl
          clear h114 h115 h116 h117 h118 h119 h120
          refine Ev.kseqN ?_
          rcases ite_some h with ⟨hb143, h⟩ | ⟨hb143, h⟩
          · refine Ev.condF h142 (congrArg Bool.not hb143) ?_
            refine Ev.ex ?_
            refine Ev.kseqN ?_
            refine Ev.seq ?_
            refine Ev.reg (fun _ => rfl) ?_
            refine Ev.nxk (mvO rfl) ?_
            refine Ev.rend ?_
            intro e144 he145
            have h146 : eget e144 0 = .sl none (a1.map (cI .i64)) := envp he145 rfl h136
            have h147 : eget e144 3 = .loc M17.length 1 0 0 := envp he145 rfl h137
            have h148 : eget e144 4 = .int .i64 0 := envp he145 rfl h138
            have h149 : eget e144 5 = .lsl M26.length r36.length 0 r36.length := envp he145 rfl h139
            have h150 : eget e144 6 = .loc M54.length 1 0 0 := envp he145 rfl h140
            have h151 : eget e144 7 = .int .i64 0 := envp he145 rfl h141
            have h152 : eget e144 8 = .int .i64 1 := envp he145 rfl rfl
            clear h136 h137 h138 h139 h140 h141 h142
            refine Ev.kseqN ?_
            refine Ev.seq ?_
            refine Ev.reg (fun _ => rfl) ?_
            refine Ev.nxk (mvO h149) ?_
            refine Ev.nxk (mvO h152) ?_
            obtain ⟨⟨r154, r155⟩, hx153, h⟩ := bind_some h
            refine Ev.nxw (Ev.callW rfl (cns rfl (cns rfl rfl)) (laws_markInt64S_l_ok r36 1 M26.length M112 o123 _ hx153)) ?_
            intro v158 M156 hq157
            obtain ⟨hv158, o159, fr160, hl161⟩ := hq157
            have hv158 : v158 = .int .i64 r154 := hv158
            subst hv158
            have o162 : M156[M26.length]? = some (.live ⟨.grow, 2, 1, r155.map (cI .i64)⟩) := o159
            have hl161 : r155.length = r36.length := hl161
            have o163 : M156[([] : Mem).length]? = some (.live ⟨.grow, 2, 1, r15.map (cI .i64)⟩) := fr160 _ _ (niC ne42 niN) o121
            have o164 : M156[M17.length]? = some (.live ⟨.box, 25, 3, [[.int .i64 0, .lsl ([] : Mem).length r15.length 0 r15.length, .nils]]⟩) := fr160 _ _ (niC ne43 niN) o122
            have o165 : M156[M38.length]? = some (.live ⟨.grow, 2, 1, r52.map (cI .i64)⟩) := fr160 _ _ (niC (Ne.symm ne61) niN) o124
            have o166 : M156[M54.length]? = some (.live ⟨.box, 25, 3, [[.int .i64 0, .lsl M38.length r52.length 0 r52.length, .nils]]⟩) := fr160 _ _ (niC (Ne.symm ne71) niN) o125
            refine Ev.nxk (mvO rfl) ?_
            refine Ev.rend ?_
            intro e167 he168
            have h169 : eget e167 0 = .sl none (a1.map (cI .i64)) := envp he168 rfl h146
            have h170 : eget e167 3 = .loc M17.length 1 0 0 := envp he168 rfl h147
            have h171 : eget e167 4 = .int .i64 0 := envp he168 rfl h148
            have h172 : eget e167 6 = .loc M54.length 1 0 0 := envp he168 rfl h150
            have h173 : eget e167 7 = .int .i64 0 := envp he168 rfl h151
            have h174 : eget e167 8 = .int .i64 r154 := envp he168 rfl rfl
            clear h146 h147 h148 h149 h150 h151
            refine Ev.kseqN ?_
            refine Ev.seq ?_
            refine Ev.seq ?_
            obtain ⟨r451, hr452, h⟩ := bind_some h
            refine Ev.cut (Q1 := laws_FnExactNewBook_c2_Q a1 r15 r52 (([] : Mem).length) M17.length M38.length M54.length r451) (by
                have h := hr452
                refine Ev.reg (fun _ => rfl) ?_
                refine Ev.nxk (mvO h174) ?_
                refine Ev.nxk (bLss rfl rfl) ?_
                refine Ev.nxk (mvO rfl) ?_
                rcases ite_some h with ⟨hb175, h⟩ | ⟨hb175, h⟩
                · refine Ev.nxk (gsF rfl hb175) ?_
                  refine Ev.nxk (gsF rfl hb175) ?_
                  refine Ev.nxck (Ev.gsF rfl hb175) ?_
                  refine Ev.nxk (gsF rfl hb175) ?_
                  refine Ev.nxk (pkT rfl hb175 rfl) ?_
                  refine Ev.nxk (mvO rfl) ?_
                  refine Ev.nxk (gsF rfl rfl) ?_
                  refine Ev.nxk (gsF rfl rfl) ?_
                  refine Ev.nxk (gsF rfl rfl) ?_
                  refine Ev.nxk (pkT rfl rfl rfl) ?_
                  refine Ev.rend ?_
                  intro e176 he177
                  have h178 : eget e176 0 = .sl none (a1.map (cI .i64)) := envp he177 rfl h169
                  have h179 : eget e176 3 = .loc M17.length 1 0 0 := envp he177 rfl h170
                  have h180 : eget e176 4 = .int .i64 0 := envp he177 rfl h171
                  have h181 : eget e176 6 = .loc M54.length 1 0 0 := envp he177 rfl h172
                  have h182 : eget e176 58 = .bool true := envp he177 rfl rfl
                  clear h169 h170 h171 h172 h173 h174
                  cases h
                  exact Ev.kid (show laws_FnExactNewBook_c2_Q a1 r15 r52 (([] : Mem).length) M17.length M38.length M54.length _ _ from (And.intro rfl (And.intro h178 (And.intro h179 (And.intro h180 (And.intro h181 (And.intro h182 (And.intro o163 (And.intro o164 (And.intro o165 o166))))))))))
                · refine Ev.nxk (guF rfl hb175 (ldOA h172 o166 rfl rfl (ble rfl) rfl)) ?_
                  refine Ev.nxk (guF rfl hb175 (ldOA h170 o164 rfl rfl (ble rfl) rfl)) ?_
                  obtain ⟨r184, hx183, h⟩ := bind_some h
                  refine Ev.nxck (Ev.guF rfl hb175 (Ev.call (v := .bool r184) rfl (cns rfl (cns rfl rfl)) (ra1 (ra_agg (mp1 rfl (mp1 (ra1_row o165 rfl (cI_fl _)) (mp1 rfl mp0)))) (ra1 (ra_agg (mp1 rfl (mp1 (ra1_row o163 rfl (cI_fl _)) (mp1 rfl mp0)))) ra0)) (laws_eqBook_ok (Book.mk 0 r52 ([] : List Tally)) (Book.mk 0 r15 ([] : List Tally)) _ hx183) (fun _ => rfl))) ?_
                  refine Ev.nxk (guF rfl hb175 (uNot rfl)) ?_
                  refine Ev.nxk (pkF rfl hb175 rfl) ?_
                  refine Ev.nxk (mvO rfl) ?_
                  rcases ite_some h with ⟨hb185, h⟩ | ⟨hb185, h⟩
                  · refine Ev.nxk (guF rfl (congrArg Bool.not hb185) (mvO h173)) ?_
                    refine Ev.nxk (guF rfl (congrArg Bool.not hb185) (mvO h171)) ?_
                    refine Ev.nxk (guF rfl (congrArg Bool.not hb185) (bNeq rfl rfl)) ?_
                    refine Ev.nxk (pkF rfl (congrArg Bool.not hb185) rfl) ?_
                    refine Ev.rend ?_
                    intro e186 he187
                    have h188 : eget e186 0 = .sl none (a1.map (cI .i64)) := envp he187 rfl h169
                    have h189 : eget e186 3 = .loc M17.length 1 0 0 := envp he187 rfl h170
                    have h190 : eget e186 4 = .int .i64 0 := envp he187 rfl h171
                    have h191 : eget e186 6 = .loc M54.length 1 0 0 := envp he187 rfl h172
                    have h192 : eget e186 58 = .bool false := envp he187 rfl rfl
                    clear h169 h170 h171 h172 h173 h174
                    cases h
                    exact Ev.kid (show laws_FnExactNewBook_c2_Q a1 r15 r52 (([] : Mem).length) M17.length M38.length M54.length _ _ from (And.intro rfl (And.intro h188 (And.intro h189 (And.intro h190 (And.intro h191 (And.intro h192 (And.intro o163 (And.intro o164 (And.intro o165 o166))))))))))
                  · refine Ev.nxk (gsF rfl (congrArg Bool.not hb185)) ?_
                    refine Ev.nxk (gsF rfl (congrArg Bool.not hb185)) ?_
                    refine Ev.nxk (gsF rfl (congrArg Bool.not hb185)) ?_
                    refine Ev.nxk (pkT rfl (congrArg Bool.not hb185) rfl) ?_
                    refine Ev.rend ?_
                    intro e193 he194
                    have h195 : eget e193 0 = .sl none (a1.map (cI .i64)) := envp he194 rfl h169
                    have h196 : eget e193 3 = .loc M17.length 1 0 0 := envp he194 rfl h170
                    have h197 : eget e193 4 = .int .i64 0 := envp he194 rfl h171
                    have h198 : eget e193 6 = .loc M54.length 1 0 0 := envp he194 rfl h172
                    have h199 : eget e193 58 = .bool true := envp he194 rfl rfl
                    clear h169 h170 h171 h172 h173 h174
                    cases h
                    exact Ev.kid (show laws_FnExactNewBook_c2_Q a1 r15 r52 (([] : Mem).length) M17.length M38.length M54.length _ _ from (And.intro rfl (And.intro h195 (And.intro h196 (And.intro h197 (And.intro h198 (And.intro h199 (And.intro o163 (And.intro o164 (And.intro o165 o166))))))))))) ?_
            revert h hr452
            revert r451
            intro y202 hr452 h
            intro x e200 M201 hq450
            obtain ⟨rfl, h203, h204, h205, h206, h207, o208, o209, o210, o211⟩ := hq450
            refine Ev.kseqN ?_
            rcases ite_some h with ⟨hb212, h⟩ | ⟨hb212, h⟩
            · refine Ev.condT h207 hb212 ?_
              refine Ev.seq ?_
              refine Ev.reg (fun _ => rfl) ?_
              refine Ev.nxk (mvO rfl) ?_
              refine Ev.rend ?_
              intro e213 he214
              have h215 : eget e213 2 = .bool false := envp he214 rfl rfl
              clear h203 h204 h205 h206 h207
              refine Ev.kseqN ?_
              refine Ev.ex ?_
              refine Ev.kseqR ?_
              cases h
              exact Ev.kendR (resT h215 res0) rfl
            · refine Ev.condF h207 hb212 ?_
              refine Ev.ex ?_
              refine Ev.kseqN ?_
              refine Ev.seq ?_
              refine Ev.reg (fun _ => rfl) ?_
              refine Ev.nxk (mvO rfl) ?_
              refine Ev.rend ?_
              intro e216 he217
              have h218 : eget e216 0 = .sl none (a1.map (cI .i64)) := envp he217 rfl h203
              have h219 : eget e216 3 = .loc M17.length 1 0 0 := envp he217 rfl h204
              have h220 : eget e216 4 = .int .i64 0 := envp he217 rfl h205
              have h221 : eget e216 6 = .loc M54.length 1 0 0 := envp he217 rfl h206
              have h222 : eget e216 9 = .int .i64 1 := envp he217 rfl rfl
              clear h203 h204 h205 h206 h207
              refine Ev.kseqN ?_
              refine Ev.seq ?_
              refine Ev.reg (fun _ => rfl) ?_
              refine Ev.nxk (ldOA h221 o211 rfl rfl (ble rfl) rfl) ?_
              refine Ev.nxk (mvO h222) ?_
              obtain ⟨⟨r224, r225⟩, hx223, h⟩ := bind_some h
              refine Ev.nxw (Ev.callW rfl (cns rfl (cns rfl rfl)) (laws_markBook_ln_ok 0 r52 1 M38.length M201 o210 _ hx223)) ?_
              intro v228 M226 hq227
              obtain ⟨hv228, o229, fr230, hl231⟩ := hq227
              have hv228 : v228 = .int .i64 r224 := hv228
              subst hv228
              have o232 : M226[M38.length]? = some (.live ⟨.grow, 2, 1, r225.map (cI .i64)⟩) := o229
              have hl231 : r225.length = r52.length := hl231
              have o233 : M226[([] : Mem).length]? = some (.live ⟨.grow, 2, 1, r15.map (cI .i64)⟩) := fr230 _ _ (niC ne59 niN) o208
              have o234 : M226[M17.length]? = some (.live ⟨.box, 25, 3, [[.int .i64 0, .lsl ([] : Mem).length r15.length 0 r15.length, .nils]]⟩) := fr230 _ _ (niC ne60 niN) o209
              have o235 : M226[M54.length]? = some (.live ⟨.box, 25, 3, [[.int .i64 0, .lsl M38.length r52.length 0 r52.length, .nils]]⟩) := fr230 _ _ (niC (Ne.symm ne73) niN) o211
              refine Ev.nxk (mvO rfl) ?_
              refine Ev.rend ?_
              intro e236 he237
              have h238 : eget e236 0 = .sl none (a1.map (cI .i64)) := envp he237 rfl h218
              have h239 : eget e236 3 = .loc M17.length 1 0 0 := envp he237 rfl h219
              have h240 : eget e236 4 = .int .i64 0 := envp he237 rfl h220
              have h241 : eget e236 6 = .loc M54.length 1 0 0 := envp he237 rfl h221
              have h242 : eget e236 9 = .int .i64 r224 := envp he237 rfl rfl
              clear h218 h219 h220 h221
              refine Ev.kseqN ?_
              refine Ev.seq ?_
              refine Ev.reg (fun _ => rfl) ?_
              refine Ev.nxk (mvO rfl) ?_
              refine Ev.rend ?_
              intro e243 he244
              have h245 : eget e243 0 = .sl none (a1.map (cI .i64)) := envp he244 rfl h238
              have h246 : eget e243 3 = .loc M17.length 1 0 0 := envp he244 rfl h239
              have h247 : eget e243 4 = .int .i64 0 := envp he244 rfl h240
              have h248 : eget e243 6 = .loc M54.length 1 0 0 := envp he244 rfl h241
              have h249 : eget e243 9 = .int .i64 r224 := envp he244 rfl h242
              have h250 : eget e243 10 = .int .i64 1 := envp he244 rfl rfl
              clear h238 h239 h240 h241 h242
              refine Ev.kseqN ?_
              refine Ev.seq ?_
              refine Ev.reg (fun _ => rfl) ?_
              refine Ev.nxk (ldOA h248 o235 rfl rfl (ble rfl) rfl) ?_
              refine Ev.nxk (mvO h250) ?_
              obtain ⟨r252, hx251, h⟩ := bind_some h
              refine Ev.nxck (Ev.call (v := .int .i64 r252) rfl (cns rfl (cns rfl rfl)) (ra1 (ra_agg (mp1 rfl (mp1 (ra1_row o232 (by simp [hl161, hl231]) (cI_fl _)) (mp1 rfl mp0)))) (ra1 rfl ra0)) (laws_heldBook_ok (Book.mk 0 r225 ([] : List Tally)) 1 _ hx251) (fun _ => rfl)) ?_
              refine Ev.nxk (mvO rfl) ?_
              refine Ev.rend ?_
              intro e253 he254
              have h255 : eget e253 0 = .sl none (a1.map (cI .i64)) := envp he254 rfl h245
              have h256 : eget e253 3 = .loc M17.length 1 0 0 := envp he254 rfl h246
              have h257 : eget e253 4 = .int .i64 0 := envp he254 rfl h247
              have h258 : eget e253 6 = .loc M54.length 1 0 0 := envp he254 rfl h248
              have h259 : eget e253 9 = .int .i64 r224 := envp he254 rfl h249
              have h260 : eget e253 10 = .int .i64 r252 := envp he254 rfl rfl
              clear h245 h246 h247 h248 h249
              refine Ev.kseqN ?_
              refine Ev.seq ?_
              refine Ev.seq ?_
              refine Ev.reg (fun _ => rfl) ?_
              refine Ev.nxk (mvO h260) ?_
              refine Ev.nxk (bLss rfl rfl) ?_
              refine Ev.rend ?_
              intro e261 he262
              have h263 : eget e261 0 = .sl none (a1.map (cI .i64)) := envp he262 rfl h255
              have h264 : eget e261 3 = .loc M17.length 1 0 0 := envp he262 rfl h256
              have h265 : eget e261 4 = .int .i64 0 := envp he262 rfl h257
              have h266 : eget e261 6 = .loc M54.length 1 0 0 := envp he262 rfl h258
              have h267 : eget e261 9 = .int .i64 r224 := envp he262 rfl h259
              have h268 : eget e261 10 = .int .i64 r252 := envp he262 rfl h260
              have h269 : eget e261 66 = .bool (decide (r252 < 0)) := envp he262 rfl rfl
              clear h255 h256 h257 h258 h259 h260
              refine Ev.kseqN ?_
              rcases ite_some h with ⟨hb270, h⟩ | ⟨hb270, h⟩
              · refine Ev.condT h269 hb270 ?_
                refine Ev.seq ?_
                refine Ev.reg (fun _ => rfl) ?_
                refine Ev.nxk (mvO rfl) ?_
                refine Ev.rend ?_
                intro e271 he272
                have h273 : eget e271 2 = .bool false := envp he272 rfl rfl
                clear h263 h264 h265 h266 h267 h268 h269
                refine Ev.kseqN ?_
                refine Ev.ex ?_
                refine Ev.kseqR ?_
                cases h
                exact Ev.kendR (resT h273 res0) rfl
              · refine Ev.condF h269 hb270 ?_
                refine Ev.ex ?_
                refine Ev.kseqN ?_
                refine Ev.seq ?_
                refine Ev.seq ?_
                refine Ev.reg (fun _ => rfl) ?_
                refine Ev.nxk (mvO h268) ?_
                refine Ev.nxk (mvO h267) ?_
                refine Ev.nxk (bNeq rfl rfl) ?_
                refine Ev.rend ?_
                intro e274 he275
                have h276 : eget e274 0 = .sl none (a1.map (cI .i64)) := envp he275 rfl h263
                have h277 : eget e274 3 = .loc M17.length 1 0 0 := envp he275 rfl h264
                have h278 : eget e274 4 = .int .i64 0 := envp he275 rfl h265
                have h279 : eget e274 6 = .loc M54.length 1 0 0 := envp he275 rfl h266
                have h280 : eget e274 9 = .int .i64 r224 := envp he275 rfl h267
                have h281 : eget e274 69 = .bool (r252 != r224) := envp he275 rfl rfl
                clear h263 h264 h265 h266 h267 h268 h269
                refine Ev.kseqN ?_
                rcases ite_some h with ⟨hb282, h⟩ | ⟨hb282, h⟩
                · refine Ev.condT h281 hb282 ?_
                  refine Ev.seq ?_
                  refine Ev.reg (fun _ => rfl) ?_
                  refine Ev.nxk (mvO rfl) ?_
                  refine Ev.rend ?_
                  intro e283 he284
                  have h285 : eget e283 2 = .bool false := envp he284 rfl rfl
                  clear h276 h277 h278 h279 h280 h281
                  refine Ev.kseqN ?_
                  refine Ev.ex ?_
                  refine Ev.kseqR ?_
                  cases h
                  exact Ev.kendR (resT h285 res0) rfl
                · refine Ev.condF h281 hb282 ?_
                  refine Ev.ex ?_
                  refine Ev.kseqN ?_
                  refine Ev.seq ?_
                  refine Ev.reg (fun _ => rfl) ?_
                  refine Ev.nxk (mvO h276) ?_
                  obtain ⟨r287, hx286, h⟩ := bind_some h
                  refine Ev.nxck (Ev.call (v := .sl (some 2) (r287.map (cI .i64))) rfl (cns rfl rfl) rfl (laws_toInt64S_ok a1 _ hx286) (fun h => nomatch (show false = true from h))) ?_
                  obtain ⟨q449, hx288, h⟩ := bind_some h
                  rcases q449 with r289 | _
                  · refine Ev.nxcp (Ev.callT (v := .tup [.agg [.int .i64 0, .sl (some 2) (r289.map (cI .i64)), .nils], .int .i64 0]) rfl (cns rfl rfl) rfl (impl_NewBook_ok r287 _ hx288) (th_gen (v' := .tup [.agg [.int .i64 0, .lsl M226.length r289.length 0 r289.length, .nils], .int .i64 0]) (l := [⟨.grow, 2, 1, r289.map (cI .i64)⟩]) (own_tup (oa1 (own2_agg (oa1 rfl (oa1 (own1_row' (c := (cI .i64)) (fun _ => rfl)) (oa1 rfl oa0)))) (oa1 rfl oa0))) (by simp [thaw, thaw2, thaw1, thawL, co2]) rfl rfl)) ?_
                    intro M291 hM292
                    have o293 := push_old hM292 o233
                    have o294 := push_old hM292 o234
                    have o295 := push_old hM292 o232
                    have o296 := push_old hM292 o235
                    have ne297 : ([] : Mem).length ≠ M226.length := by have := lt_of_get o233; omega
                    have ne298 : M17.length ≠ M226.length := by have := lt_of_get o234; omega
                    have ne299 : M38.length ≠ M226.length := by have := lt_of_get o232; omega
                    have ne300 : M54.length ≠ M226.length := by have := lt_of_get o235; omega
                    have o301 : M291[M226.length]? = some (.live ⟨.grow, 2, 1, r289.map (cI .i64)⟩) := push_at hM292 0 rfl
                    refine Ev.nxk (mvO rfl) ?_
                    refine Ev.nxk (exT rfl rfl) ?_
                    refine Ev.nxk (exT rfl rfl) ?_
                    refine Ev.nxpush (alO zero25) ?_
                    intro M303 hM304
                    have o305 := push_old hM304 o293
                    have ne306 := ne_new o293
                    have o307 := push_old hM304 o294
                    have ne308 := ne_new o294
                    have o309 := push_old hM304 o295
                    have ne310 := ne_new o295
                    have o311 := push_old hM304 o296
                    have ne312 := ne_new o296
                    have o313 := push_old hM304 o301
                    have ne314 := ne_new o301
                    have o315 : M303[M291.length]? = some (.live ⟨.box, 25, 3, [[.int .i64 0, .nils, .nils]]⟩) := push_new hM304
                    refine Ev.nxput (stO rfl rfl o315 rfl rfl ⟨rfl, ble rfl⟩ (all1 rfl (all1 (okL o313 (by simp [hl161, hl231])) (all1 rfl all0))) rfl) ?_
                    intro M316 hM317
                    have o318 := set_ne hM317 ne306 o305
                    have o319 := set_ne hM317 ne308 o307
                    have o320 := set_ne hM317 ne310 o309
                    have o321 := set_ne hM317 ne312 o311
                    have o322 := set_ne hM317 ne314 o313
                    have o323 : M316[M291.length]? = some (.live ⟨.box, 25, 3, [[.int .i64 0, .lsl M226.length r289.length 0 r289.length, .nils]]⟩) := set_same hM317 o315
                    refine Ev.nxk (mvO rfl) ?_
                    refine Ev.rend ?_
                    intro e324 he325
                    have h326 : eget e324 3 = .loc M17.length 1 0 0 := envp he325 rfl h277
                    have h327 : eget e324 4 = .int .i64 0 := envp he325 rfl h278
                    have h328 : eget e324 6 = .loc M54.length 1 0 0 := envp he325 rfl h279
                    have h329 : eget e324 9 = .int .i64 r224 := envp he325 rfl h280
                    have h330 : eget e324 11 = .loc M291.length 1 0 0 := envp he325 rfl rfl
                    have h331 : eget e324 12 = .int .i64 0 := envp he325 rfl rfl
                    clear h276 h277 h278 h279 h280 h281
                    refine Ev.kseqN ?_
                    refine Ev.seq ?_
                    refine Ev.seq ?_
                    obtain ⟨r388, hr389, h⟩ := bind_some h
                    refine Ev.cut (Q1 := laws_FnExactNewBook_c3_Q r52 r224 r225 (([] : Mem).length) M17.length M38.length M54.length M226.length M291.length r388) (by
                        have h := hr389
                        refine Ev.reg (fun _ => rfl) ?_
                        refine Ev.nxk (ldOA h330 o323 rfl rfl (ble rfl) rfl) ?_
                        refine Ev.nxk (ldOA h326 o319 rfl rfl (ble rfl) rfl) ?_
                        obtain ⟨r333, hx332, h⟩ := bind_some h
                        refine Ev.nxck (Ev.call (v := .bool r333) rfl (cns rfl (cns rfl rfl)) (ra1 (ra_agg (mp1 rfl (mp1 (ra1_row o322 rfl (cI_fl _)) (mp1 rfl mp0)))) (ra1 (ra_agg (mp1 rfl (mp1 (ra1_row o318 rfl (cI_fl _)) (mp1 rfl mp0)))) ra0)) (laws_eqBook_ok (Book.mk 0 r289 ([] : List Tally)) (Book.mk 0 r15 ([] : List Tally)) _ hx332) (fun _ => rfl)) ?_
                        refine Ev.nxk (uNot rfl) ?_
                        refine Ev.nxk (mvO rfl) ?_
                        rcases ite_some h with ⟨hb334, h⟩ | ⟨hb334, h⟩
                        · refine Ev.nxk (guF rfl (congrArg Bool.not hb334) (mvO h331)) ?_
                          refine Ev.nxk (guF rfl (congrArg Bool.not hb334) (mvO h327)) ?_
                          refine Ev.nxk (guF rfl (congrArg Bool.not hb334) (bNeq rfl rfl)) ?_
                          refine Ev.nxk (pkF rfl (congrArg Bool.not hb334) rfl) ?_
                          refine Ev.rend ?_
                          intro e335 he336
                          have h337 : eget e335 6 = .loc M54.length 1 0 0 := envp he336 rfl h328
                          have h338 : eget e335 9 = .int .i64 r224 := envp he336 rfl h329
                          have h339 : eget e335 84 = .bool false := envp he336 rfl rfl
                          clear h326 h327 h328 h329 h330 h331
                          cases h
                          exact Ev.kid (show laws_FnExactNewBook_c3_Q r52 r224 r225 (([] : Mem).length) M17.length M38.length M54.length M226.length M291.length _ _ from (And.intro rfl (And.intro h337 (And.intro h338 (And.intro h339 (And.intro o320 o321))))))
                        · refine Ev.nxk (gsF rfl (congrArg Bool.not hb334)) ?_
                          refine Ev.nxk (gsF rfl (congrArg Bool.not hb334)) ?_
                          refine Ev.nxk (gsF rfl (congrArg Bool.not hb334)) ?_
                          refine Ev.nxk (pkT rfl (congrArg Bool.not hb334) rfl) ?_
                          refine Ev.rend ?_
                          intro e340 he341
                          have h342 : eget e340 6 = .loc M54.length 1 0 0 := envp he341 rfl h328
                          have h343 : eget e340 9 = .int .i64 r224 := envp he341 rfl h329
                          have h344 : eget e340 84 = .bool true := envp he341 rfl rfl
                          clear h326 h327 h328 h329 h330 h331
                          cases h
                          exact Ev.kid (show laws_FnExactNewBook_c3_Q r52 r224 r225 (([] : Mem).length) M17.length M38.length M54.length M226.length M291.length _ _ from (And.intro rfl (And.intro h342 (And.intro h343 (And.intro h344 (And.intro o320 o321))))))) ?_
                    revert h hr389
                    revert r388
                    intro y347 hr389 h
                    intro x e345 M346 hq387
                    obtain ⟨rfl, h348, h349, h350, o351, o352⟩ := hq387
                    refine Ev.kseqN ?_
                    rcases ite_some h with ⟨hb353, h⟩ | ⟨hb353, h⟩
                    · refine Ev.condT h350 hb353 ?_
                      refine Ev.seq ?_
                      refine Ev.reg (fun _ => rfl) ?_
                      refine Ev.nxk (mvO rfl) ?_
                      refine Ev.rend ?_
                      intro e354 he355
                      have h356 : eget e354 2 = .bool false := envp he355 rfl rfl
                      clear h348 h349 h350
                      refine Ev.kseqN ?_
                      refine Ev.ex ?_
                      refine Ev.kseqR ?_
                      cases h
                      exact Ev.kendR (resT h356 res0) rfl
                    · refine Ev.condF h350 hb353 ?_
                      refine Ev.ex ?_
                      refine Ev.kseqN ?_
                      refine Ev.seq ?_
                      refine Ev.reg (fun _ => rfl) ?_
                      refine Ev.nxk (mvO rfl) ?_
                      refine Ev.rend ?_
                      intro e357 he358
                      have h359 : eget e357 6 = .loc M54.length 1 0 0 := envp he358 rfl h348
                      have h360 : eget e357 9 = .int .i64 r224 := envp he358 rfl h349
                      have h361 : eget e357 10 = .int .i64 1 := envp he358 rfl rfl
                      clear h348 h349 h350
                      refine Ev.kseqN ?_
                      refine Ev.seq ?_
                      refine Ev.reg (fun _ => rfl) ?_
                      refine Ev.nxk (ldOA h359 o352 rfl rfl (ble rfl) rfl) ?_
                      refine Ev.nxk (mvO h361) ?_
                      obtain ⟨r363, hx362, h⟩ := bind_some h
                      refine Ev.nxck (Ev.call (v := .int .i64 r363) rfl (cns rfl (cns rfl rfl)) (ra1 (ra_agg (mp1 rfl (mp1 (ra1_row o351 (by simp [hl161, hl231]) (cI_fl _)) (mp1 rfl mp0)))) (ra1 rfl ra0)) (laws_heldBook_ok (Book.mk 0 r225 ([] : List Tally)) 1 _ hx362) (fun _ => rfl)) ?_
                      refine Ev.nxk (mvO rfl) ?_
                      refine Ev.rend ?_
                      intro e364 he365
                      have h366 : eget e364 9 = .int .i64 r224 := envp he365 rfl h360
                      have h367 : eget e364 10 = .int .i64 r363 := envp he365 rfl rfl
                      clear h359 h360
                      refine Ev.kseqN ?_
                      refine Ev.seq ?_
                      refine Ev.seq ?_
                      refine Ev.reg (fun _ => rfl) ?_
                      refine Ev.nxk (mvO h367) ?_
                      refine Ev.nxk (bLss rfl rfl) ?_
                      refine Ev.rend ?_
                      intro e368 he369
                      have h370 : eget e368 9 = .int .i64 r224 := envp he369 rfl h366
                      have h371 : eget e368 10 = .int .i64 r363 := envp he369 rfl h367
                      have h372 : eget e368 89 = .bool (decide (r363 < 0)) := envp he369 rfl rfl
                      clear h366 h367
                      refine Ev.kseqN ?_
                      rcases ite_some h with ⟨hb373, h⟩ | ⟨hb373, h⟩
                      · refine Ev.condT h372 hb373 ?_
                        refine Ev.seq ?_
                        refine Ev.reg (fun _ => rfl) ?_
                        refine Ev.nxk (mvO rfl) ?_
                        refine Ev.rend ?_
                        intro e374 he375
                        have h376 : eget e374 2 = .bool false := envp he375 rfl rfl
                        clear h370 h371 h372
                        refine Ev.kseqN ?_
                        refine Ev.ex ?_
                        refine Ev.kseqR ?_
                        cases h
                        exact Ev.kendR (resT h376 res0) rfl
                      · refine Ev.condF h372 hb373 ?_
                        refine Ev.ex ?_
                        refine Ev.kseqN ?_
                        refine Ev.seq ?_
                        refine Ev.seq ?_
                        refine Ev.reg (fun _ => rfl) ?_
                        refine Ev.nxk (mvO h371) ?_
                        refine Ev.nxk (mvO h370) ?_
                        refine Ev.nxk (bNeq rfl rfl) ?_
                        refine Ev.rend ?_
                        intro e377 he378
                        have h379 : eget e377 92 = .bool (r363 != r224) := envp he378 rfl rfl
                        clear h370 h371 h372
                        refine Ev.kseqN ?_
                        rcases ite_some h with ⟨hb380, h⟩ | ⟨hb380, h⟩
                        · refine Ev.condT h379 hb380 ?_
                          refine Ev.seq ?_
                          refine Ev.reg (fun _ => rfl) ?_
                          refine Ev.nxk (mvO rfl) ?_
                          refine Ev.rend ?_
                          intro e381 he382
                          have h383 : eget e381 2 = .bool false := envp he382 rfl rfl
                          clear h379
                          refine Ev.kseqN ?_
                          refine Ev.ex ?_
                          refine Ev.kseqR ?_
                          cases h
                          exact Ev.kendR (resT h383 res0) rfl
                        · refine Ev.condF h379 hb380 ?_
                          refine Ev.ex ?_
                          refine Ev.kseqN ?_
                          refine Ev.seq ?_
                          refine Ev.reg (fun _ => rfl) ?_
                          refine Ev.nxk (mvO rfl) ?_
                          refine Ev.rend ?_
                          intro e384 he385
                          have h386 : eget e384 2 = .bool true := envp he385 rfl rfl
                          clear h379
                          refine Ev.kseqN ?_
                          refine Ev.ex ?_
                          cases h
                          exact Ev.kendR (resT h386 res0) rfl
                  · refine Ev.nxcp (Ev.callT (v := .tup [.agg [.int .i64 0, .nils, .nils], .int .i64 2]) rfl (cns rfl rfl) rfl (impl_NewBook_ok r287 _ hx288) (th_gen (v' := .tup [.agg [.int .i64 0, .nils, .nils], .int .i64 2]) (l := []) (own_tup (oa1 (own2_agg (oa1 rfl (oa1 rfl (oa1 rfl oa0)))) (oa1 rfl oa0))) (by simp [thaw, thaw2, thaw1, thawL, thaw]) rfl rfl)) ?_
                    intro M390 hM391
                    have o392 := push_old hM391 o233
                    have o393 := push_old hM391 o234
                    have o394 := push_old hM391 o232
                    have o395 := push_old hM391 o235
                    refine Ev.nxk (mvO rfl) ?_
                    refine Ev.nxk (exT rfl rfl) ?_
                    refine Ev.nxk (exT rfl rfl) ?_
                    refine Ev.nxpush (alO zero25) ?_
                    intro M397 hM398
                    have o399 := push_old hM398 o392
                    have ne400 := ne_new o392
                    have o401 := push_old hM398 o393
                    have ne402 := ne_new o393
                    have o403 := push_old hM398 o394
                    have ne404 := ne_new o394
                    have o405 := push_old hM398 o395
                    have ne406 := ne_new o395
                    have o407 : M397[M390.length]? = some (.live ⟨.box, 25, 3, [[.int .i64 0, .nils, .nils]]⟩) := push_new hM398
                    refine Ev.nxput (stO rfl rfl o407 rfl rfl ⟨rfl, ble rfl⟩ rfl rfl) ?_
                    intro M408 hM409
                    have o410 := set_ne hM409 ne400 o399
                    have o411 := set_ne hM409 ne402 o401
                    have o412 := set_ne hM409 ne404 o403
                    have o413 := set_ne hM409 ne406 o405
                    have o414 : M408[M390.length]? = some (.live ⟨.box, 25, 3, [[.int .i64 0, .nils, .nils]]⟩) := set_same hM409 o407
                    refine Ev.nxk (mvO rfl) ?_
                    refine Ev.rend ?_
                    intro e415 he416
                    have h417 : eget e415 3 = .loc M17.length 1 0 0 := envp he416 rfl h277
                    have h418 : eget e415 4 = .int .i64 0 := envp he416 rfl h278
                    have h419 : eget e415 6 = .loc M54.length 1 0 0 := envp he416 rfl h279
                    have h420 : eget e415 9 = .int .i64 r224 := envp he416 rfl h280
                    have h421 : eget e415 11 = .loc M390.length 1 0 0 := envp he416 rfl rfl
                    have h422 : eget e415 12 = .int .i64 2 := envp he416 rfl rfl
                    clear h276 h277 h278 h279 h280 h281
                    refine Ev.kseqN ?_
                    refine Ev.seq ?_
                    refine Ev.seq ?_
                    obtain ⟨r447, hr448, h⟩ := bind_some h
                    refine Ev.cut (Q1 := laws_FnExactNewBook_c4_Q r52 r224 r225 (([] : Mem).length) M17.length M38.length M54.length M390.length r447) (by
                        have h := hr448
                        refine Ev.reg (fun _ => rfl) ?_
                        refine Ev.nxk (ldOA h421 o414 rfl rfl (ble rfl) rfl) ?_
                        refine Ev.nxk (ldOA h417 o411 rfl rfl (ble rfl) rfl) ?_
                        obtain ⟨r424, hx423, h⟩ := bind_some h
                        refine Ev.nxck (Ev.call (v := .bool r424) rfl (cns rfl (cns rfl rfl)) (ra1 rfl (ra1 (ra_agg (mp1 rfl (mp1 (ra1_row o410 rfl (cI_fl _)) (mp1 rfl mp0)))) ra0)) (laws_eqBook_ok (Book.mk 0 ([] : List Int) ([] : List Tally)) (Book.mk 0 r15 ([] : List Tally)) _ hx423) (fun _ => rfl)) ?_
                        refine Ev.nxk (uNot rfl) ?_
                        refine Ev.nxk (mvO rfl) ?_
                        rcases ite_some h with ⟨hb425, h⟩ | ⟨hb425, h⟩
                        · refine Ev.nxk (guF rfl (congrArg Bool.not hb425) (mvO h422)) ?_
                          refine Ev.nxk (guF rfl (congrArg Bool.not hb425) (mvO h418)) ?_
                          refine Ev.nxk (guF rfl (congrArg Bool.not hb425) (bNeq rfl rfl)) ?_
                          refine Ev.nxk (pkF rfl (congrArg Bool.not hb425) rfl) ?_
                          refine Ev.rend ?_
                          intro e426 he427
                          have h428 : eget e426 6 = .loc M54.length 1 0 0 := envp he427 rfl h419
                          have h429 : eget e426 9 = .int .i64 r224 := envp he427 rfl h420
                          have h430 : eget e426 84 = .bool true := envp he427 rfl rfl
                          clear h417 h418 h419 h420 h421 h422
                          cases h
                          exact Ev.kid (show laws_FnExactNewBook_c4_Q r52 r224 r225 (([] : Mem).length) M17.length M38.length M54.length M390.length _ _ from (And.intro rfl (And.intro h428 (And.intro h429 (And.intro h430 (And.intro o412 o413))))))
                        · refine Ev.nxk (gsF rfl (congrArg Bool.not hb425)) ?_
                          refine Ev.nxk (gsF rfl (congrArg Bool.not hb425)) ?_
                          refine Ev.nxk (gsF rfl (congrArg Bool.not hb425)) ?_
                          refine Ev.nxk (pkT rfl (congrArg Bool.not hb425) rfl) ?_
                          refine Ev.rend ?_
                          intro e431 he432
                          have h433 : eget e431 6 = .loc M54.length 1 0 0 := envp he432 rfl h419
                          have h434 : eget e431 9 = .int .i64 r224 := envp he432 rfl h420
                          have h435 : eget e431 84 = .bool true := envp he432 rfl rfl
                          clear h417 h418 h419 h420 h421 h422
                          cases h
                          exact Ev.kid (show laws_FnExactNewBook_c4_Q r52 r224 r225 (([] : Mem).length) M17.length M38.length M54.length M390.length _ _ from (And.intro rfl (And.intro h433 (And.intro h434 (And.intro h435 (And.intro o412 o413))))))) ?_
                    intro x e436 M437 hq446
                    obtain ⟨rfl, h438, h439, h440, o441, o442⟩ := hq446
                    refine Ev.kseqN ?_
                    refine Ev.condT h440 rfl ?_
                    refine Ev.seq ?_
                    refine Ev.reg (fun _ => rfl) ?_
                    refine Ev.nxk (mvO rfl) ?_
                    refine Ev.rend ?_
                    intro e443 he444
                    have h445 : eget e443 2 = .bool false := envp he444 rfl rfl
                    clear h438 h439 h440
                    refine Ev.kseqN ?_
                    refine Ev.ex ?_
                    refine Ev.kseqR ?_
                    cases h
                    exact Ev.kendR (resT h445 res0) rfl
          · refine Ev.condT h142 (congrArg Bool.not hb143) ?_
            refine Ev.seq ?_
            refine Ev.reg (fun _ => rfl) ?_
            refine Ev.nxk (mvO rfl) ?_
            refine Ev.rend ?_
            intro e453 he454
            have h455 : eget e453 2 = .bool false := envp he454 rfl rfl
            clear h136 h137 h138 h139 h140 h141 h142
            refine Ev.kseqN ?_
            refine Ev.ex ?_
            refine Ev.kseqR ?_
            cases h
            exact Ev.kendR (resT h455 res0) rfl
      · refine Ev.nxcp (Ev.callT (v := .tup [.agg [.int .i64 0, .nils, .nils], .int .i64 2]) rfl (cns rfl rfl) (ra1 (ra1_row o44 rfl (cI_fl _)) ra0) (impl_NewBook_ok r36 _ hx51) (th_gen (v' := .tup [.agg [.int .i64 0, .nils, .nils], .int .i64 2]) (l := []) (own_tup (oa1 (own2_agg (oa1 rfl (oa1 rfl (oa1 rfl oa0)))) (oa1 rfl oa0))) (by simp [thaw, thaw2, thaw1, thawL, thaw]) rfl rfl)) ?_
        intro M459 hM460
        have o461 := push_old hM460 o40
        have o462 := push_old hM460 o41
        have o463 := push_old hM460 o44
        refine Ev.nxk (mvO rfl) ?_
        refine Ev.nxk (exT rfl rfl) ?_
        refine Ev.nxk (exT rfl rfl) ?_
        refine Ev.nxpush (alO zero25) ?_
        intro M465 hM466
        have o467 := push_old hM466 o461
        have ne468 := ne_new o461
        have o469 := push_old hM466 o462
        have ne470 := ne_new o462
        have o471 := push_old hM466 o463
        have ne472 := ne_new o463
        have o473 : M465[M459.length]? = some (.live ⟨.box, 25, 3, [[.int .i64 0, .nils, .nils]]⟩) := push_new hM466
        refine Ev.nxput (stO rfl rfl o473 rfl rfl ⟨rfl, ble rfl⟩ rfl rfl) ?_
        intro M474 hM475
        have o476 := set_ne hM475 ne468 o467
        have o477 := set_ne hM475 ne470 o469
        have o478 := set_ne hM475 ne472 o471
        have o479 : M474[M459.length]? = some (.live ⟨.box, 25, 3, [[.int .i64 0, .nils, .nils]]⟩) := set_same hM475 o473
        refine Ev.nxk (mvO rfl) ?_
        refine Ev.rend ?_
        intro e480 he481
        have h482 : eget e480 0 = .sl none (a1.map (cI .i64)) := envp he481 rfl h47
        have h483 : eget e480 3 = .loc M17.length 1 0 0 := envp he481 rfl h48
        have h484 : eget e480 4 = .int .i64 0 := envp he481 rfl h49
        have h485 : eget e480 5 = .lsl M26.length r36.length 0 r36.length := envp he481 rfl h50
        have h486 : eget e480 6 = .loc M459.length 1 0 0 := envp he481 rfl rfl
        have h487 : eget e480 7 = .int .i64 2 := envp he481 rfl rfl
        clear h47 h48 h49 h50
        refine Ev.kseqN ?_
        refine Ev.seq ?_
        refine Ev.seq ?_
        obtain ⟨r526, hr527, h⟩ := bind_some h
        refine Ev.cut (Q1 := laws_FnExactNewBook_c5_Q a1 r15 r36 (([] : Mem).length) M17.length M26.length M459.length r526) (by
            have h := hr527
            refine Ev.reg (fun _ => rfl) ?_
            refine Ev.nxk (ldOA h486 o479 rfl rfl (ble rfl) rfl) ?_
            refine Ev.nxk (ldOA h483 o477 rfl rfl (ble rfl) rfl) ?_
            obtain ⟨r489, hx488, h⟩ := bind_some h
            refine Ev.nxck (Ev.call (v := .bool r489) rfl (cns rfl (cns rfl rfl)) (ra1 rfl (ra1 (ra_agg (mp1 rfl (mp1 (ra1_row o476 rfl (cI_fl _)) (mp1 rfl mp0)))) ra0)) (laws_eqBook_ok (Book.mk 0 ([] : List Int) ([] : List Tally)) (Book.mk 0 r15 ([] : List Tally)) _ hx488) (fun _ => rfl)) ?_
            refine Ev.nxk (uNot rfl) ?_
            refine Ev.nxk (mvO rfl) ?_
            rcases ite_some h with ⟨hb490, h⟩ | ⟨hb490, h⟩
            · refine Ev.nxk (guF rfl (congrArg Bool.not hb490) (mvO h487)) ?_
              refine Ev.nxk (guF rfl (congrArg Bool.not hb490) (mvO h484)) ?_
              refine Ev.nxk (guF rfl (congrArg Bool.not hb490) (bNeq rfl rfl)) ?_
              refine Ev.nxk (pkF rfl (congrArg Bool.not hb490) rfl) ?_
              refine Ev.rend ?_
              intro e491 he492
              have h493 : eget e491 0 = .sl none (a1.map (cI .i64)) := envp he492 rfl h482
              have h494 : eget e491 3 = .loc M17.length 1 0 0 := envp he492 rfl h483
              have h495 : eget e491 4 = .int .i64 0 := envp he492 rfl h484
              have h496 : eget e491 5 = .lsl M26.length r36.length 0 r36.length := envp he492 rfl h485
              have h497 : eget e491 6 = .loc M459.length 1 0 0 := envp he492 rfl h486
              have h498 : eget e491 7 = .int .i64 2 := envp he492 rfl h487
              have h499 : eget e491 37 = .bool true := envp he492 rfl rfl
              clear h482 h483 h484 h485 h486 h487
              cases h
              exact Ev.kid (show laws_FnExactNewBook_c5_Q a1 r15 r36 (([] : Mem).length) M17.length M26.length M459.length _ _ from (And.intro rfl (And.intro h493 (And.intro h494 (And.intro h495 (And.intro h496 (And.intro h497 (And.intro h498 (And.intro h499 (And.intro o476 (And.intro o477 (And.intro o478 o479))))))))))))
            · refine Ev.nxk (gsF rfl (congrArg Bool.not hb490)) ?_
              refine Ev.nxk (gsF rfl (congrArg Bool.not hb490)) ?_
              refine Ev.nxk (gsF rfl (congrArg Bool.not hb490)) ?_
              refine Ev.nxk (pkT rfl (congrArg Bool.not hb490) rfl) ?_
              refine Ev.rend ?_
              intro e500 he501
              have h502 : eget e500 0 = .sl none (a1.map (cI .i64)) := envp he501 rfl h482
              have h503 : eget e500 3 = .loc M17.length 1 0 0 := envp he501 rfl h483
              have h504 : eget e500 4 = .int .i64 0 := envp he501 rfl h484
              have h505 : eget e500 5 = .lsl M26.length r36.length 0 r36.length := envp he501 rfl h485
              have h506 : eget e500 6 = .loc M459.length 1 0 0 := envp he501 rfl h486
              have h507 : eget e500 7 = .int .i64 2 := envp he501 rfl h487
              have h508 : eget e500 37 = .bool true := envp he501 rfl rfl
              clear h482 h483 h484 h485 h486 h487
              cases h
              exact Ev.kid (show laws_FnExactNewBook_c5_Q a1 r15 r36 (([] : Mem).length) M17.length M26.length M459.length _ _ from (And.intro rfl (And.intro h502 (And.intro h503 (And.intro h504 (And.intro h505 (And.intro h506 (And.intro h507 (And.intro h508 (And.intro o476 (And.intro o477 (And.intro o478 o479))))))))))))) ?_
        intro x e509 M510 hq525
        obtain ⟨rfl, h511, h512, h513, h514, h515, h516, h517, o518, o519, o520, o521⟩ := hq525
        refine Ev.kseqN ?_
        refine Ev.condT h517 rfl ?_
        refine Ev.seq ?_
        refine Ev.reg (fun _ => rfl) ?_
        refine Ev.nxk (mvO rfl) ?_
        refine Ev.rend ?_
        intro e522 he523
        have h524 : eget e522 2 = .bool false := envp he523 rfl rfl
        clear h511 h512 h513 h514 h515 h516 h517
        refine Ev.kseqN ?_
        refine Ev.ex ?_
        refine Ev.kseqR ?_
        cases h
        exact Ev.kendR (resT h524 res0) rfl
    · refine Ev.nxcp (Ev.callT (v := .tup [.agg [.int .i64 0, .nils, .nils], .int .i64 2]) rfl (cns rfl rfl) rfl (spec_NewBook_ok r13 _ hx14) (th_gen (v' := .tup [.agg [.int .i64 0, .nils, .nils], .int .i64 2]) (l := []) (own_tup (oa1 (own2_agg (oa1 rfl (oa1 rfl (oa1 rfl oa0)))) (oa1 rfl oa0))) (by simp [thaw, thaw2, thaw1, thawL, thaw]) rfl rfl)) ?_
      intro M529 hM530
      refine Ev.nxk (mvO rfl) ?_
      refine Ev.nxk (exT rfl rfl) ?_
      refine Ev.nxk (exT rfl rfl) ?_
      refine Ev.nxpush (alO zero25) ?_
      intro M532 hM533
      have o534 : M532[M529.length]? = some (.live ⟨.box, 25, 3, [[.int .i64 0, .nils, .nils]]⟩) := push_new hM533
      refine Ev.nxput (stO rfl rfl o534 rfl rfl ⟨rfl, ble rfl⟩ rfl rfl) ?_
      intro M535 hM536
      have o537 : M535[M529.length]? = some (.live ⟨.box, 25, 3, [[.int .i64 0, .nils, .nils]]⟩) := set_same hM536 o534
      refine Ev.nxk (mvO rfl) ?_
      refine Ev.rend ?_
      intro e538 he539
      have h540 : eget e538 0 = .sl none (a1.map (cI .i64)) := envp he539 rfl h6
      have h541 : eget e538 3 = .loc M529.length 1 0 0 := envp he539 rfl rfl
      have h542 : eget e538 4 = .int .i64 2 := envp he539 rfl rfl
      clear h6 h7
      refine Ev.kseqN ?_
      refine Ev.seq ?_
      refine Ev.reg (fun _ => rfl) ?_
      refine Ev.nxk (mvO h540) ?_
      obtain ⟨r544, hx543, h⟩ := bind_some h
      refine Ev.nxcp (Ev.callT (v := .sl (some 2) (r544.map (cI .i64))) rfl (cns rfl rfl) rfl (laws_toInt64S_ok a1 _ hx543) (th_gen (v' := .lsl M535.length r544.length 0 r544.length) (l := [⟨.grow, 2, 1, r544.map (cI .i64)⟩]) (ownA_row (c := (cI .i64)) (fun _ => rfl)) (by simp [thaw, thaw2, thaw1, thawL, co2]) rfl rfl)) ?_
      intro M546 hM547
      have o548 := push_old hM547 o537
      have ne549 : M529.length ≠ M535.length := by have := lt_of_get o537; omega
      have o550 : M546[M535.length]? = some (.live ⟨.grow, 2, 1, r544.map (cI .i64)⟩) := push_at hM547 0 rfl
      refine Ev.nxk (mvO rfl) ?_
      refine Ev.rend ?_
      intro e551 he552
      have h553 : eget e551 0 = .sl none (a1.map (cI .i64)) := envp he552 rfl h540
      have h554 : eget e551 3 = .loc M529.length 1 0 0 := envp he552 rfl h541
      have h555 : eget e551 4 = .int .i64 2 := envp he552 rfl h542
      have h556 : eget e551 5 = .lsl M535.length r544.length 0 r544.length := envp he552 rfl rfl
      clear h540 h541 h542
      refine Ev.kseqN ?_
      refine Ev.seq ?_
      refine Ev.reg (fun _ => rfl) ?_
      refine Ev.nxk (mvO h556) ?_
      obtain ⟨q994, hx557, h⟩ := bind_some h
      rcases q994 with r558 | _
      · refine Ev.nxcp (Ev.callT (v := .tup [.agg [.int .i64 0, .sl (some 2) (r558.map (cI .i64)), .nils], .int .i64 0]) rfl (cns rfl rfl) (ra1 (ra1_row o550 rfl (cI_fl _)) ra0) (impl_NewBook_ok r544 _ hx557) (th_gen (v' := .tup [.agg [.int .i64 0, .lsl M546.length r558.length 0 r558.length, .nils], .int .i64 0]) (l := [⟨.grow, 2, 1, r558.map (cI .i64)⟩]) (own_tup (oa1 (own2_agg (oa1 rfl (oa1 (own1_row' (c := (cI .i64)) (fun _ => rfl)) (oa1 rfl oa0)))) (oa1 rfl oa0))) (by simp [thaw, thaw2, thaw1, thawL, co2]) rfl rfl)) ?_
        intro M560 hM561
        have o562 := push_old hM561 o548
        have o563 := push_old hM561 o550
        have ne564 : M529.length ≠ M546.length := by have := lt_of_get o548; omega
        have ne565 : M535.length ≠ M546.length := by have := lt_of_get o550; omega
        have o566 : M560[M546.length]? = some (.live ⟨.grow, 2, 1, r558.map (cI .i64)⟩) := push_at hM561 0 rfl
        refine Ev.nxk (mvO rfl) ?_
        refine Ev.nxk (exT rfl rfl) ?_
        refine Ev.nxk (exT rfl rfl) ?_
        refine Ev.nxpush (alO zero25) ?_
        intro M568 hM569
        have o570 := push_old hM569 o562
        have ne571 := ne_new o562
        have o572 := push_old hM569 o563
        have ne573 := ne_new o563
        have o574 := push_old hM569 o566
        have ne575 := ne_new o566
        have o576 : M568[M560.length]? = some (.live ⟨.box, 25, 3, [[.int .i64 0, .nils, .nils]]⟩) := push_new hM569
        refine Ev.nxput (stO rfl rfl o576 rfl rfl ⟨rfl, ble rfl⟩ (all1 rfl (all1 (okL o574 (by simp)) (all1 rfl all0))) rfl) ?_
        intro M577 hM578
        have o579 := set_ne hM578 ne571 o570
        have o580 := set_ne hM578 ne573 o572
        have o581 := set_ne hM578 ne575 o574
        have o582 : M577[M560.length]? = some (.live ⟨.box, 25, 3, [[.int .i64 0, .lsl M546.length r558.length 0 r558.length, .nils]]⟩) := set_same hM578 o576
        refine Ev.nxk (mvO rfl) ?_
        refine Ev.rend ?_
        intro e583 he584
        have h585 : eget e583 0 = .sl none (a1.map (cI .i64)) := envp he584 rfl h553
        have h586 : eget e583 3 = .loc M529.length 1 0 0 := envp he584 rfl h554
        have h587 : eget e583 4 = .int .i64 2 := envp he584 rfl h555
        have h588 : eget e583 5 = .lsl M535.length r544.length 0 r544.length := envp he584 rfl h556
        have h589 : eget e583 6 = .loc M560.length 1 0 0 := envp he584 rfl rfl
        have h590 : eget e583 7 = .int .i64 0 := envp he584 rfl rfl
        clear h553 h554 h555 h556
        refine Ev.kseqN ?_
        refine Ev.seq ?_
        refine Ev.seq ?_
        obtain ⟨r629, hr630, h⟩ := bind_some h
        refine Ev.cut (Q1 := laws_FnExactNewBook_c6_Q a1 r544 r558 M529.length M535.length M546.length M560.length r629) (by
            have h := hr630
            refine Ev.reg (fun _ => rfl) ?_
            refine Ev.nxk (ldOA h589 o582 rfl rfl (ble rfl) rfl) ?_
            refine Ev.nxk (ldOA h586 o579 rfl rfl (ble rfl) rfl) ?_
            obtain ⟨r592, hx591, h⟩ := bind_some h
            refine Ev.nxck (Ev.call (v := .bool r592) rfl (cns rfl (cns rfl rfl)) (ra1 (ra_agg (mp1 rfl (mp1 (ra1_row o581 rfl (cI_fl _)) (mp1 rfl mp0)))) (ra1 rfl ra0)) (laws_eqBook_ok (Book.mk 0 r558 ([] : List Tally)) (Book.mk 0 ([] : List Int) ([] : List Tally)) _ hx591) (fun _ => rfl)) ?_
            refine Ev.nxk (uNot rfl) ?_
            refine Ev.nxk (mvO rfl) ?_
            rcases ite_some h with ⟨hb593, h⟩ | ⟨hb593, h⟩
            · refine Ev.nxk (guF rfl (congrArg Bool.not hb593) (mvO h590)) ?_
              refine Ev.nxk (guF rfl (congrArg Bool.not hb593) (mvO h587)) ?_
              refine Ev.nxk (guF rfl (congrArg Bool.not hb593) (bNeq rfl rfl)) ?_
              refine Ev.nxk (pkF rfl (congrArg Bool.not hb593) rfl) ?_
              refine Ev.rend ?_
              intro e594 he595
              have h596 : eget e594 0 = .sl none (a1.map (cI .i64)) := envp he595 rfl h585
              have h597 : eget e594 3 = .loc M529.length 1 0 0 := envp he595 rfl h586
              have h598 : eget e594 4 = .int .i64 2 := envp he595 rfl h587
              have h599 : eget e594 5 = .lsl M535.length r544.length 0 r544.length := envp he595 rfl h588
              have h600 : eget e594 6 = .loc M560.length 1 0 0 := envp he595 rfl h589
              have h601 : eget e594 7 = .int .i64 0 := envp he595 rfl h590
              have h602 : eget e594 37 = .bool true := envp he595 rfl rfl
              clear h585 h586 h587 h588 h589 h590
              cases h
              exact Ev.kid (show laws_FnExactNewBook_c6_Q a1 r544 r558 M529.length M535.length M546.length M560.length _ _ from (And.intro rfl (And.intro h596 (And.intro h597 (And.intro h598 (And.intro h599 (And.intro h600 (And.intro h601 (And.intro h602 (And.intro o579 (And.intro o580 (And.intro o581 o582))))))))))))
            · refine Ev.nxk (gsF rfl (congrArg Bool.not hb593)) ?_
              refine Ev.nxk (gsF rfl (congrArg Bool.not hb593)) ?_
              refine Ev.nxk (gsF rfl (congrArg Bool.not hb593)) ?_
              refine Ev.nxk (pkT rfl (congrArg Bool.not hb593) rfl) ?_
              refine Ev.rend ?_
              intro e603 he604
              have h605 : eget e603 0 = .sl none (a1.map (cI .i64)) := envp he604 rfl h585
              have h606 : eget e603 3 = .loc M529.length 1 0 0 := envp he604 rfl h586
              have h607 : eget e603 4 = .int .i64 2 := envp he604 rfl h587
              have h608 : eget e603 5 = .lsl M535.length r544.length 0 r544.length := envp he604 rfl h588
              have h609 : eget e603 6 = .loc M560.length 1 0 0 := envp he604 rfl h589
              have h610 : eget e603 7 = .int .i64 0 := envp he604 rfl h590
              have h611 : eget e603 37 = .bool true := envp he604 rfl rfl
              clear h585 h586 h587 h588 h589 h590
              cases h
              exact Ev.kid (show laws_FnExactNewBook_c6_Q a1 r544 r558 M529.length M535.length M546.length M560.length _ _ from (And.intro rfl (And.intro h605 (And.intro h606 (And.intro h607 (And.intro h608 (And.intro h609 (And.intro h610 (And.intro h611 (And.intro o579 (And.intro o580 (And.intro o581 o582))))))))))))) ?_
        intro x e612 M613 hq628
        obtain ⟨rfl, h614, h615, h616, h617, h618, h619, h620, o621, o622, o623, o624⟩ := hq628
        refine Ev.kseqN ?_
        refine Ev.condT h620 rfl ?_
        refine Ev.seq ?_
        refine Ev.reg (fun _ => rfl) ?_
        refine Ev.nxk (mvO rfl) ?_
        refine Ev.rend ?_
        intro e625 he626
        have h627 : eget e625 2 = .bool false := envp he626 rfl rfl
        clear h614 h615 h616 h617 h618 h619 h620
        refine Ev.kseqN ?_
        refine Ev.ex ?_
        refine Ev.kseqR ?_
        cases h
        exact Ev.kendR (resT h627 res0) rfl
      · refine Ev.nxcp (Ev.callT (v := .tup [.agg [.int .i64 0, .nils, .nils], .int .i64 2]) rfl (cns rfl rfl) (ra1 (ra1_row o550 rfl (cI_fl _)) ra0) (impl_NewBook_ok r544 _ hx557) (th_gen (v' := .tup [.agg [.int .i64 0, .nils, .nils], .int .i64 2]) (l := []) (own_tup (oa1 (own2_agg (oa1 rfl (oa1 rfl (oa1 rfl oa0)))) (oa1 rfl oa0))) (by simp [thaw, thaw2, thaw1, thawL, thaw]) rfl rfl)) ?_
        intro M631 hM632
        have o633 := push_old hM632 o548
        have o634 := push_old hM632 o550
        refine Ev.nxk (mvO rfl) ?_
        refine Ev.nxk (exT rfl rfl) ?_
        refine Ev.nxk (exT rfl rfl) ?_
        refine Ev.nxpush (alO zero25) ?_
        intro M636 hM637
        have o638 := push_old hM637 o633
        have ne639 := ne_new o633
        have o640 := push_old hM637 o634
        have ne641 := ne_new o634
        have o642 : M636[M631.length]? = some (.live ⟨.box, 25, 3, [[.int .i64 0, .nils, .nils]]⟩) := push_new hM637
        refine Ev.nxput (stO rfl rfl o642 rfl rfl ⟨rfl, ble rfl⟩ rfl rfl) ?_
        intro M643 hM644
        have o645 := set_ne hM644 ne639 o638
        have o646 := set_ne hM644 ne641 o640
        have o647 : M643[M631.length]? = some (.live ⟨.box, 25, 3, [[.int .i64 0, .nils, .nils]]⟩) := set_same hM644 o642
        refine Ev.nxk (mvO rfl) ?_
        refine Ev.rend ?_
        intro e648 he649
        have h650 : eget e648 0 = .sl none (a1.map (cI .i64)) := envp he649 rfl h553
        have h651 : eget e648 3 = .loc M529.length 1 0 0 := envp he649 rfl h554
        have h652 : eget e648 4 = .int .i64 2 := envp he649 rfl h555
        have h653 : eget e648 5 = .lsl M535.length r544.length 0 r544.length := envp he649 rfl h556
        have h654 : eget e648 6 = .loc M631.length 1 0 0 := envp he649 rfl rfl
        have h655 : eget e648 7 = .int .i64 2 := envp he649 rfl rfl
        clear h553 h554 h555 h556
        refine Ev.kseqN ?_
        refine Ev.seq ?_
        refine Ev.seq ?_
        obtain ⟨r992, hr993, h⟩ := bind_some h
        refine Ev.cut (Q1 := laws_FnExactNewBook_c7_Q a1 r544 M529.length M535.length M631.length r992) (by
            have h := hr993
            refine Ev.reg (fun _ => rfl) ?_
            refine Ev.nxk (ldOA h654 o647 rfl rfl (ble rfl) rfl) ?_
            refine Ev.nxk (ldOA h651 o645 rfl rfl (ble rfl) rfl) ?_
            obtain ⟨r657, hx656, h⟩ := bind_some h
            refine Ev.nxck (Ev.call (v := .bool r657) rfl (cns rfl (cns rfl rfl)) rfl (laws_eqBook_ok (Book.mk 0 ([] : List Int) ([] : List Tally)) (Book.mk 0 ([] : List Int) ([] : List Tally)) _ hx656) (fun h => nomatch (show false = true from h))) ?_
            refine Ev.nxk (uNot rfl) ?_
            refine Ev.nxk (mvO rfl) ?_
            rcases ite_some h with ⟨hb658, h⟩ | ⟨hb658, h⟩
            · refine Ev.nxk (guF rfl (congrArg Bool.not hb658) (mvO h655)) ?_
              refine Ev.nxk (guF rfl (congrArg Bool.not hb658) (mvO h652)) ?_
              refine Ev.nxk (guF rfl (congrArg Bool.not hb658) (bNeq rfl rfl)) ?_
              refine Ev.nxk (pkF rfl (congrArg Bool.not hb658) rfl) ?_
              refine Ev.rend ?_
              intro e659 he660
              have h661 : eget e659 0 = .sl none (a1.map (cI .i64)) := envp he660 rfl h650
              have h662 : eget e659 3 = .loc M529.length 1 0 0 := envp he660 rfl h651
              have h663 : eget e659 4 = .int .i64 2 := envp he660 rfl h652
              have h664 : eget e659 5 = .lsl M535.length r544.length 0 r544.length := envp he660 rfl h653
              have h665 : eget e659 6 = .loc M631.length 1 0 0 := envp he660 rfl h654
              have h666 : eget e659 7 = .int .i64 2 := envp he660 rfl h655
              have h667 : eget e659 37 = .bool false := envp he660 rfl rfl
              clear h650 h651 h652 h653 h654 h655
              cases h
              exact Ev.kid (show laws_FnExactNewBook_c7_Q a1 r544 M529.length M535.length M631.length _ _ from (And.intro rfl (And.intro h661 (And.intro h662 (And.intro h663 (And.intro h664 (And.intro h665 (And.intro h666 (And.intro h667 (And.intro o645 (And.intro o646 o647)))))))))))
            · refine Ev.nxk (gsF rfl (congrArg Bool.not hb658)) ?_
              refine Ev.nxk (gsF rfl (congrArg Bool.not hb658)) ?_
              refine Ev.nxk (gsF rfl (congrArg Bool.not hb658)) ?_
              refine Ev.nxk (pkT rfl (congrArg Bool.not hb658) rfl) ?_
              refine Ev.rend ?_
              intro e668 he669
              have h670 : eget e668 0 = .sl none (a1.map (cI .i64)) := envp he669 rfl h650
              have h671 : eget e668 3 = .loc M529.length 1 0 0 := envp he669 rfl h651
              have h672 : eget e668 4 = .int .i64 2 := envp he669 rfl h652
              have h673 : eget e668 5 = .lsl M535.length r544.length 0 r544.length := envp he669 rfl h653
              have h674 : eget e668 6 = .loc M631.length 1 0 0 := envp he669 rfl h654
              have h675 : eget e668 7 = .int .i64 2 := envp he669 rfl h655
              have h676 : eget e668 37 = .bool true := envp he669 rfl rfl
              clear h650 h651 h652 h653 h654 h655
              cases h
              exact Ev.kid (show laws_FnExactNewBook_c7_Q a1 r544 M529.length M535.length M631.length _ _ from (And.intro rfl (And.intro h670 (And.intro h671 (And.intro h672 (And.intro h673 (And.intro h674 (And.intro h675 (And.intro h676 (And.intro o645 (And.intro o646 o647)))))))))))) ?_
        revert h hr993
        revert r992
        intro y679 hr993 h
        intro x e677 M678 hq991
        obtain ⟨rfl, h680, h681, h682, h683, h684, h685, h686, o687, o688, o689⟩ := hq991
        refine Ev.kseqN ?_
        rcases ite_some h with ⟨hb690, h⟩ | ⟨hb690, h⟩
        · refine Ev.condT h686 hb690 ?_
          refine Ev.seq ?_
          refine Ev.reg (fun _ => rfl) ?_
          refine Ev.nxk (mvO rfl) ?_
          refine Ev.rend ?_
          intro e691 he692
          have h693 : eget e691 2 = .bool false := envp he692 rfl rfl
          clear h680 h681 h682 h683 h684 h685 h686
          refine Ev.kseqN ?_
          refine Ev.ex ?_
          refine Ev.kseqR ?_
          cases h
          exact Ev.kendR (resT h693 res0) rfl
        · refine Ev.condF h686 hb690 ?_
          refine Ev.ex ?_
          refine Ev.kseqN ?_
          refine Ev.seq ?_
          refine Ev.seq ?_
          refine Ev.reg (fun _ => rfl) ?_
          refine Ev.nxk (mvO h683) ?_
          refine Ev.nxk (mvO h680) ?_
          obtain ⟨r695, hx694, h⟩ := bind_some h
          refine Ev.nxck (Ev.call (v := .sl (some 2) (r695.map (cI .i64))) rfl (cns rfl rfl) rfl (laws_toInt64S_ok a1 _ hx694) (fun h => nomatch (show false = true from h))) ?_
          obtain ⟨r697, hx696, h⟩ := bind_some h
          refine Ev.nxck (Ev.call (v := .bool r697) rfl (cns rfl (cns rfl rfl)) (ra1 (ra1_row o688 rfl (cI_fl _)) (ra1 rfl ra0)) (laws_eqInt64S_ok r544 r695 _ hx696) (fun _ => rfl)) ?_
          refine Ev.nxk (uNot rfl) ?_
          refine Ev.rend ?_
          intro e698 he699
          have h700 : eget e698 0 = .sl none (a1.map (cI .i64)) := envp he699 rfl h680
          have h701 : eget e698 3 = .loc M529.length 1 0 0 := envp he699 rfl h681
          have h702 : eget e698 4 = .int .i64 2 := envp he699 rfl h682
          have h703 : eget e698 5 = .lsl M535.length r544.length 0 r544.length := envp he699 rfl h683
          have h704 : eget e698 6 = .loc M631.length 1 0 0 := envp he699 rfl h684
          have h705 : eget e698 7 = .int .i64 2 := envp he699 rfl h685
          have h706 : eget e698 42 = .bool (!r697) := envp he699 rfl rfl
          clear h680 h681 h682 h683 h684 h685 h686
          refine Ev.kseqN ?_
          rcases ite_some h with ⟨hb707, h⟩ | ⟨hb707, h⟩
          · refine Ev.condF h706 (congrArg Bool.not hb707) ?_
            refine Ev.ex ?_
            refine Ev.kseqN ?_
            refine Ev.seq ?_
            refine Ev.reg (fun _ => rfl) ?_
            refine Ev.nxk (mvO rfl) ?_
            refine Ev.rend ?_
            intro e708 he709
            have h710 : eget e708 0 = .sl none (a1.map (cI .i64)) := envp he709 rfl h700
            have h711 : eget e708 3 = .loc M529.length 1 0 0 := envp he709 rfl h701
            have h712 : eget e708 4 = .int .i64 2 := envp he709 rfl h702
            have h713 : eget e708 5 = .lsl M535.length r544.length 0 r544.length := envp he709 rfl h703
            have h714 : eget e708 6 = .loc M631.length 1 0 0 := envp he709 rfl h704
            have h715 : eget e708 7 = .int .i64 2 := envp he709 rfl h705
            have h716 : eget e708 8 = .int .i64 1 := envp he709 rfl rfl
            clear h700 h701 h702 h703 h704 h705 h706
            refine Ev.kseqN ?_
            refine Ev.seq ?_
            refine Ev.reg (fun _ => rfl) ?_
            refine Ev.nxk (mvO h713) ?_
            refine Ev.nxk (mvO h716) ?_
            obtain ⟨⟨r718, r719⟩, hx717, h⟩ := bind_some h
            refine Ev.nxw (Ev.callW rfl (cns rfl (cns rfl rfl)) (laws_markInt64S_l_ok r544 1 M535.length M678 o688 _ hx717)) ?_
            intro v722 M720 hq721
            obtain ⟨hv722, o723, fr724, hl725⟩ := hq721
            have hv722 : v722 = .int .i64 r718 := hv722
            subst hv722
            have o726 : M720[M535.length]? = some (.live ⟨.grow, 2, 1, r719.map (cI .i64)⟩) := o723
            have hl725 : r719.length = r544.length := hl725
            have o727 : M720[M529.length]? = some (.live ⟨.box, 25, 3, [[.int .i64 0, .nils, .nils]]⟩) := fr724 _ _ (niC ne549 niN) o687
            have o728 : M720[M631.length]? = some (.live ⟨.box, 25, 3, [[.int .i64 0, .nils, .nils]]⟩) := fr724 _ _ (niC (Ne.symm ne641) niN) o689
            refine Ev.nxk (mvO rfl) ?_
            refine Ev.rend ?_
            intro e729 he730
            have h731 : eget e729 0 = .sl none (a1.map (cI .i64)) := envp he730 rfl h710
            have h732 : eget e729 3 = .loc M529.length 1 0 0 := envp he730 rfl h711
            have h733 : eget e729 4 = .int .i64 2 := envp he730 rfl h712
            have h734 : eget e729 6 = .loc M631.length 1 0 0 := envp he730 rfl h714
            have h735 : eget e729 7 = .int .i64 2 := envp he730 rfl h715
            have h736 : eget e729 8 = .int .i64 r718 := envp he730 rfl rfl
            clear h710 h711 h712 h713 h714 h715
            refine Ev.kseqN ?_
            refine Ev.seq ?_
            refine Ev.seq ?_
            obtain ⟨r986, hr987, h⟩ := bind_some h
            refine Ev.cut (Q1 := laws_FnExactNewBook_c8_Q a1 M529.length M631.length r986) (by
                have h := hr987
                refine Ev.reg (fun _ => rfl) ?_
                refine Ev.nxk (mvO h736) ?_
                refine Ev.nxk (bLss rfl rfl) ?_
                refine Ev.nxk (mvO rfl) ?_
                rcases ite_some h with ⟨hb737, h⟩ | ⟨hb737, h⟩
                · refine Ev.nxk (gsF rfl hb737) ?_
                  refine Ev.nxk (gsF rfl hb737) ?_
                  refine Ev.nxck (Ev.gsF rfl hb737) ?_
                  refine Ev.nxk (gsF rfl hb737) ?_
                  refine Ev.nxk (pkT rfl hb737 rfl) ?_
                  refine Ev.nxk (mvO rfl) ?_
                  refine Ev.nxk (gsF rfl rfl) ?_
                  refine Ev.nxk (gsF rfl rfl) ?_
                  refine Ev.nxk (gsF rfl rfl) ?_
                  refine Ev.nxk (pkT rfl rfl rfl) ?_
                  refine Ev.rend ?_
                  intro e738 he739
                  have h740 : eget e738 0 = .sl none (a1.map (cI .i64)) := envp he739 rfl h731
                  have h741 : eget e738 3 = .loc M529.length 1 0 0 := envp he739 rfl h732
                  have h742 : eget e738 4 = .int .i64 2 := envp he739 rfl h733
                  have h743 : eget e738 6 = .loc M631.length 1 0 0 := envp he739 rfl h734
                  have h744 : eget e738 58 = .bool true := envp he739 rfl rfl
                  clear h731 h732 h733 h734 h735 h736
                  cases h
                  exact Ev.kid (show laws_FnExactNewBook_c8_Q a1 M529.length M631.length _ _ from (And.intro rfl (And.intro h740 (And.intro h741 (And.intro h742 (And.intro h743 (And.intro h744 (And.intro o727 o728))))))))
                · refine Ev.nxk (guF rfl hb737 (ldOA h734 o728 rfl rfl (ble rfl) rfl)) ?_
                  refine Ev.nxk (guF rfl hb737 (ldOA h732 o727 rfl rfl (ble rfl) rfl)) ?_
                  obtain ⟨r746, hx745, h⟩ := bind_some h
                  refine Ev.nxck (Ev.guF rfl hb737 (Ev.call (v := .bool r746) rfl (cns rfl (cns rfl rfl)) rfl (laws_eqBook_ok (Book.mk 0 ([] : List Int) ([] : List Tally)) (Book.mk 0 ([] : List Int) ([] : List Tally)) _ hx745) (fun h => nomatch (show false = true from h)))) ?_
                  refine Ev.nxk (guF rfl hb737 (uNot rfl)) ?_
                  refine Ev.nxk (pkF rfl hb737 rfl) ?_
                  refine Ev.nxk (mvO rfl) ?_
                  rcases ite_some h with ⟨hb747, h⟩ | ⟨hb747, h⟩
                  · refine Ev.nxk (guF rfl (congrArg Bool.not hb747) (mvO h735)) ?_
                    refine Ev.nxk (guF rfl (congrArg Bool.not hb747) (mvO h733)) ?_
                    refine Ev.nxk (guF rfl (congrArg Bool.not hb747) (bNeq rfl rfl)) ?_
                    refine Ev.nxk (pkF rfl (congrArg Bool.not hb747) rfl) ?_
                    refine Ev.rend ?_
                    intro e748 he749
                    have h750 : eget e748 0 = .sl none (a1.map (cI .i64)) := envp he749 rfl h731
                    have h751 : eget e748 3 = .loc M529.length 1 0 0 := envp he749 rfl h732
                    have h752 : eget e748 4 = .int .i64 2 := envp he749 rfl h733
                    have h753 : eget e748 6 = .loc M631.length 1 0 0 := envp he749 rfl h734
                    have h754 : eget e748 58 = .bool false := envp he749 rfl rfl
                    clear h731 h732 h733 h734 h735 h736
                    cases h
                    exact Ev.kid (show laws_FnExactNewBook_c8_Q a1 M529.length M631.length _ _ from (And.intro rfl (And.intro h750 (And.intro h751 (And.intro h752 (And.intro h753 (And.intro h754 (And.intro o727 o728))))))))
                  · refine Ev.nxk (gsF rfl (congrArg Bool.not hb747)) ?_
                    refine Ev.nxk (gsF rfl (congrArg Bool.not hb747)) ?_
                    refine Ev.nxk (gsF rfl (congrArg Bool.not hb747)) ?_
                    refine Ev.nxk (pkT rfl (congrArg Bool.not hb747) rfl) ?_
                    refine Ev.rend ?_
                    intro e755 he756
                    have h757 : eget e755 0 = .sl none (a1.map (cI .i64)) := envp he756 rfl h731
                    have h758 : eget e755 3 = .loc M529.length 1 0 0 := envp he756 rfl h732
                    have h759 : eget e755 4 = .int .i64 2 := envp he756 rfl h733
                    have h760 : eget e755 6 = .loc M631.length 1 0 0 := envp he756 rfl h734
                    have h761 : eget e755 58 = .bool true := envp he756 rfl rfl
                    clear h731 h732 h733 h734 h735 h736
                    cases h
                    exact Ev.kid (show laws_FnExactNewBook_c8_Q a1 M529.length M631.length _ _ from (And.intro rfl (And.intro h757 (And.intro h758 (And.intro h759 (And.intro h760 (And.intro h761 (And.intro o727 o728))))))))) ?_
            revert h hr987
            revert r986
            intro y764 hr987 h
            intro x e762 M763 hq985
            obtain ⟨rfl, h765, h766, h767, h768, h769, o770, o771⟩ := hq985
            refine Ev.kseqN ?_
            rcases ite_some h with ⟨hb772, h⟩ | ⟨hb772, h⟩
            · refine Ev.condT h769 hb772 ?_
              refine Ev.seq ?_
              refine Ev.reg (fun _ => rfl) ?_
              refine Ev.nxk (mvO rfl) ?_
              refine Ev.rend ?_
              intro e773 he774
              have h775 : eget e773 2 = .bool false := envp he774 rfl rfl
              clear h765 h766 h767 h768 h769
              refine Ev.kseqN ?_
              refine Ev.ex ?_
              refine Ev.kseqR ?_
              cases h
              exact Ev.kendR (resT h775 res0) rfl
            · refine Ev.condF h769 hb772 ?_
              refine Ev.ex ?_
              refine Ev.kseqN ?_
              refine Ev.seq ?_
              refine Ev.reg (fun _ => rfl) ?_
              refine Ev.nxk (mvO rfl) ?_
              refine Ev.rend ?_
              intro e776 he777
              have h778 : eget e776 0 = .sl none (a1.map (cI .i64)) := envp he777 rfl h765
              have h779 : eget e776 3 = .loc M529.length 1 0 0 := envp he777 rfl h766
              have h780 : eget e776 4 = .int .i64 2 := envp he777 rfl h767
              have h781 : eget e776 6 = .loc M631.length 1 0 0 := envp he777 rfl h768
              have h782 : eget e776 9 = .int .i64 1 := envp he777 rfl rfl
              clear h765 h766 h767 h768 h769
              refine Ev.kseqN ?_
              refine Ev.seq ?_
              refine Ev.reg (fun _ => rfl) ?_
              refine Ev.nxk (ldOA h781 o771 rfl rfl (ble rfl) rfl) ?_
              refine Ev.nxk (mvO h782) ?_
              obtain ⟨r784, hx783, h⟩ := bind_some h
              refine Ev.nxw (Ev.callW rfl (cns rfl (cns rfl rfl)) (laws_markBook_nn_ok 0 1 M763 _ hx783)) ?_
              intro v787 M785 hq786
              obtain ⟨hv787, fr788⟩ := hq786
              have hv787 : v787 = .int .i64 r784 := hv787
              subst hv787
              have o789 : M785[M529.length]? = some (.live ⟨.box, 25, 3, [[.int .i64 0, .nils, .nils]]⟩) := fr788 _ _ niN o770
              have o790 : M785[M631.length]? = some (.live ⟨.box, 25, 3, [[.int .i64 0, .nils, .nils]]⟩) := fr788 _ _ niN o771
              refine Ev.nxk (mvO rfl) ?_
              refine Ev.rend ?_
              intro e791 he792
              have h793 : eget e791 0 = .sl none (a1.map (cI .i64)) := envp he792 rfl h778
              have h794 : eget e791 3 = .loc M529.length 1 0 0 := envp he792 rfl h779
              have h795 : eget e791 4 = .int .i64 2 := envp he792 rfl h780
              have h796 : eget e791 6 = .loc M631.length 1 0 0 := envp he792 rfl h781
              have h797 : eget e791 9 = .int .i64 r784 := envp he792 rfl rfl
              clear h778 h779 h780 h781
              refine Ev.kseqN ?_
              refine Ev.seq ?_
              refine Ev.reg (fun _ => rfl) ?_
              refine Ev.nxk (mvO rfl) ?_
              refine Ev.rend ?_
              intro e798 he799
              have h800 : eget e798 0 = .sl none (a1.map (cI .i64)) := envp he799 rfl h793
              have h801 : eget e798 3 = .loc M529.length 1 0 0 := envp he799 rfl h794
              have h802 : eget e798 4 = .int .i64 2 := envp he799 rfl h795
              have h803 : eget e798 6 = .loc M631.length 1 0 0 := envp he799 rfl h796
              have h804 : eget e798 9 = .int .i64 r784 := envp he799 rfl h797
              have h805 : eget e798 10 = .int .i64 1 := envp he799 rfl rfl
              clear h793 h794 h795 h796 h797
              refine Ev.kseqN ?_
              refine Ev.seq ?_
              refine Ev.reg (fun _ => rfl) ?_
              refine Ev.nxk (ldOA h803 o790 rfl rfl (ble rfl) rfl) ?_
              refine Ev.nxk (mvO h805) ?_
              obtain ⟨r807, hx806, h⟩ := bind_some h
              refine Ev.nxck (Ev.call (v := .int .i64 r807) rfl (cns rfl (cns rfl rfl)) rfl (laws_heldBook_ok (Book.mk 0 ([] : List Int) ([] : List Tally)) 1 _ hx806) (fun h => nomatch (show false = true from h))) ?_
              refine Ev.nxk (mvO rfl) ?_
              refine Ev.rend ?_
              intro e808 he809
              have h810 : eget e808 0 = .sl none (a1.map (cI .i64)) := envp he809 rfl h800
              have h811 : eget e808 3 = .loc M529.length 1 0 0 := envp he809 rfl h801
              have h812 : eget e808 4 = .int .i64 2 := envp he809 rfl h802
              have h813 : eget e808 6 = .loc M631.length 1 0 0 := envp he809 rfl h803
              have h814 : eget e808 9 = .int .i64 r784 := envp he809 rfl h804
              have h815 : eget e808 10 = .int .i64 r807 := envp he809 rfl rfl
              clear h800 h801 h802 h803 h804
              refine Ev.kseqN ?_
              refine Ev.seq ?_
              refine Ev.seq ?_
              refine Ev.reg (fun _ => rfl) ?_
              refine Ev.nxk (mvO h815) ?_
              refine Ev.nxk (bLss rfl rfl) ?_
              refine Ev.rend ?_
              intro e816 he817
              have h818 : eget e816 0 = .sl none (a1.map (cI .i64)) := envp he817 rfl h810
              have h819 : eget e816 3 = .loc M529.length 1 0 0 := envp he817 rfl h811
              have h820 : eget e816 4 = .int .i64 2 := envp he817 rfl h812
              have h821 : eget e816 6 = .loc M631.length 1 0 0 := envp he817 rfl h813
              have h822 : eget e816 9 = .int .i64 r784 := envp he817 rfl h814
              have h823 : eget e816 10 = .int .i64 r807 := envp he817 rfl h815
              have h824 : eget e816 66 = .bool (decide (r807 < 0)) := envp he817 rfl rfl
              clear h810 h811 h812 h813 h814 h815
              refine Ev.kseqN ?_
              rcases ite_some h with ⟨hb825, h⟩ | ⟨hb825, h⟩
              · refine Ev.condT h824 hb825 ?_
                refine Ev.seq ?_
                refine Ev.reg (fun _ => rfl) ?_
                refine Ev.nxk (mvO rfl) ?_
                refine Ev.rend ?_
                intro e826 he827
                have h828 : eget e826 2 = .bool false := envp he827 rfl rfl
                clear h818 h819 h820 h821 h822 h823 h824
                refine Ev.kseqN ?_
                refine Ev.ex ?_
                refine Ev.kseqR ?_
                cases h
                exact Ev.kendR (resT h828 res0) rfl
              · refine Ev.condF h824 hb825 ?_
                refine Ev.ex ?_
                refine Ev.kseqN ?_
                refine Ev.seq ?_
                refine Ev.seq ?_
                refine Ev.reg (fun _ => rfl) ?_
                refine Ev.nxk (mvO h823) ?_
                refine Ev.nxk (mvO h822) ?_
                refine Ev.nxk (bNeq rfl rfl) ?_
                refine Ev.rend ?_
                intro e829 he830
                have h831 : eget e829 0 = .sl none (a1.map (cI .i64)) := envp he830 rfl h818
                have h832 : eget e829 3 = .loc M529.length 1 0 0 := envp he830 rfl h819
                have h833 : eget e829 4 = .int .i64 2 := envp he830 rfl h820
                have h834 : eget e829 6 = .loc M631.length 1 0 0 := envp he830 rfl h821
                have h835 : eget e829 9 = .int .i64 r784 := envp he830 rfl h822
                have h836 : eget e829 69 = .bool (r807 != r784) := envp he830 rfl rfl
                clear h818 h819 h820 h821 h822 h823 h824
                refine Ev.kseqN ?_
                rcases ite_some h with ⟨hb837, h⟩ | ⟨hb837, h⟩
                · refine Ev.condT h836 hb837 ?_
                  refine Ev.seq ?_
                  refine Ev.reg (fun _ => rfl) ?_
                  refine Ev.nxk (mvO rfl) ?_
                  refine Ev.rend ?_
                  intro e838 he839
                  have h840 : eget e838 2 = .bool false := envp he839 rfl rfl
                  clear h831 h832 h833 h834 h835 h836
                  refine Ev.kseqN ?_
                  refine Ev.ex ?_
                  refine Ev.kseqR ?_
                  cases h
                  exact Ev.kendR (resT h840 res0) rfl
                · refine Ev.condF h836 hb837 ?_
                  refine Ev.ex ?_
                  refine Ev.kseqN ?_
                  refine Ev.seq ?_
                  refine Ev.reg (fun _ => rfl) ?_
                  refine Ev.nxk (mvO h831) ?_
                  obtain ⟨r842, hx841, h⟩ := bind_some h
                  refine Ev.nxck (Ev.call (v := .sl (some 2) (r842.map (cI .i64))) rfl (cns rfl rfl) rfl (laws_toInt64S_ok a1 _ hx841) (fun h => nomatch (show false = true from h))) ?_
                  obtain ⟨q984, hx843, h⟩ := bind_some h
                  rcases q984 with r844 | _
                  · refine Ev.nxcp (Ev.callT (v := .tup [.agg [.int .i64 0, .sl (some 2) (r844.map (cI .i64)), .nils], .int .i64 0]) rfl (cns rfl rfl) rfl (impl_NewBook_ok r842 _ hx843) (th_gen (v' := .tup [.agg [.int .i64 0, .lsl M785.length r844.length 0 r844.length, .nils], .int .i64 0]) (l := [⟨.grow, 2, 1, r844.map (cI .i64)⟩]) (own_tup (oa1 (own2_agg (oa1 rfl (oa1 (own1_row' (c := (cI .i64)) (fun _ => rfl)) (oa1 rfl oa0)))) (oa1 rfl oa0))) (by simp [thaw, thaw2, thaw1, thawL, co2]) rfl rfl)) ?_
                    intro M846 hM847
                    have o848 := push_old hM847 o789
                    have o849 := push_old hM847 o790
                    have ne850 : M529.length ≠ M785.length := by have := lt_of_get o789; omega
                    have ne851 : M631.length ≠ M785.length := by have := lt_of_get o790; omega
                    have o852 : M846[M785.length]? = some (.live ⟨.grow, 2, 1, r844.map (cI .i64)⟩) := push_at hM847 0 rfl
                    refine Ev.nxk (mvO rfl) ?_
                    refine Ev.nxk (exT rfl rfl) ?_
                    refine Ev.nxk (exT rfl rfl) ?_
                    refine Ev.nxpush (alO zero25) ?_
                    intro M854 hM855
                    have o856 := push_old hM855 o848
                    have ne857 := ne_new o848
                    have o858 := push_old hM855 o849
                    have ne859 := ne_new o849
                    have o860 := push_old hM855 o852
                    have ne861 := ne_new o852
                    have o862 : M854[M846.length]? = some (.live ⟨.box, 25, 3, [[.int .i64 0, .nils, .nils]]⟩) := push_new hM855
                    refine Ev.nxput (stO rfl rfl o862 rfl rfl ⟨rfl, ble rfl⟩ (all1 rfl (all1 (okL o860 (by simp [hl725])) (all1 rfl all0))) rfl) ?_
                    intro M863 hM864
                    have o865 := set_ne hM864 ne857 o856
                    have o866 := set_ne hM864 ne859 o858
                    have o867 := set_ne hM864 ne861 o860
                    have o868 : M863[M846.length]? = some (.live ⟨.box, 25, 3, [[.int .i64 0, .lsl M785.length r844.length 0 r844.length, .nils]]⟩) := set_same hM864 o862
                    refine Ev.nxk (mvO rfl) ?_
                    refine Ev.rend ?_
                    intro e869 he870
                    have h871 : eget e869 3 = .loc M529.length 1 0 0 := envp he870 rfl h832
                    have h872 : eget e869 4 = .int .i64 2 := envp he870 rfl h833
                    have h873 : eget e869 6 = .loc M631.length 1 0 0 := envp he870 rfl h834
                    have h874 : eget e869 9 = .int .i64 r784 := envp he870 rfl h835
                    have h875 : eget e869 11 = .loc M846.length 1 0 0 := envp he870 rfl rfl
                    have h876 : eget e869 12 = .int .i64 0 := envp he870 rfl rfl
                    clear h831 h832 h833 h834 h835 h836
                    refine Ev.kseqN ?_
                    refine Ev.seq ?_
                    refine Ev.seq ?_
                    obtain ⟨r900, hr901, h⟩ := bind_some h
                    refine Ev.cut (Q1 := laws_FnExactNewBook_c9_Q r784 M529.length M631.length M785.length M846.length r900) (by
                        have h := hr901
                        refine Ev.reg (fun _ => rfl) ?_
                        refine Ev.nxk (ldOA h875 o868 rfl rfl (ble rfl) rfl) ?_
                        refine Ev.nxk (ldOA h871 o865 rfl rfl (ble rfl) rfl) ?_
                        obtain ⟨r878, hx877, h⟩ := bind_some h
                        refine Ev.nxck (Ev.call (v := .bool r878) rfl (cns rfl (cns rfl rfl)) (ra1 (ra_agg (mp1 rfl (mp1 (ra1_row o867 rfl (cI_fl _)) (mp1 rfl mp0)))) (ra1 rfl ra0)) (laws_eqBook_ok (Book.mk 0 r844 ([] : List Tally)) (Book.mk 0 ([] : List Int) ([] : List Tally)) _ hx877) (fun _ => rfl)) ?_
                        refine Ev.nxk (uNot rfl) ?_
                        refine Ev.nxk (mvO rfl) ?_
                        rcases ite_some h with ⟨hb879, h⟩ | ⟨hb879, h⟩
                        · refine Ev.nxk (guF rfl (congrArg Bool.not hb879) (mvO h876)) ?_
                          refine Ev.nxk (guF rfl (congrArg Bool.not hb879) (mvO h872)) ?_
                          refine Ev.nxk (guF rfl (congrArg Bool.not hb879) (bNeq rfl rfl)) ?_
                          refine Ev.nxk (pkF rfl (congrArg Bool.not hb879) rfl) ?_
                          refine Ev.rend ?_
                          intro e880 he881
                          have h882 : eget e880 6 = .loc M631.length 1 0 0 := envp he881 rfl h873
                          have h883 : eget e880 9 = .int .i64 r784 := envp he881 rfl h874
                          have h884 : eget e880 84 = .bool true := envp he881 rfl rfl
                          clear h871 h872 h873 h874 h875 h876
                          cases h
                          exact Ev.kid (show laws_FnExactNewBook_c9_Q r784 M529.length M631.length M785.length M846.length _ _ from (And.intro rfl (And.intro h882 (And.intro h883 (And.intro h884 o866)))))
                        · refine Ev.nxk (gsF rfl (congrArg Bool.not hb879)) ?_
                          refine Ev.nxk (gsF rfl (congrArg Bool.not hb879)) ?_
                          refine Ev.nxk (gsF rfl (congrArg Bool.not hb879)) ?_
                          refine Ev.nxk (pkT rfl (congrArg Bool.not hb879) rfl) ?_
                          refine Ev.rend ?_
                          intro e885 he886
                          have h887 : eget e885 6 = .loc M631.length 1 0 0 := envp he886 rfl h873
                          have h888 : eget e885 9 = .int .i64 r784 := envp he886 rfl h874
                          have h889 : eget e885 84 = .bool true := envp he886 rfl rfl
                          clear h871 h872 h873 h874 h875 h876
                          cases h
                          exact Ev.kid (show laws_FnExactNewBook_c9_Q r784 M529.length M631.length M785.length M846.length _ _ from (And.intro rfl (And.intro h887 (And.intro h888 (And.intro h889 o866)))))) ?_
                    intro x e890 M891 hq899
                    obtain ⟨rfl, h892, h893, h894, o895⟩ := hq899
                    refine Ev.kseqN ?_
                    refine Ev.condT h894 rfl ?_
                    refine Ev.seq ?_
                    refine Ev.reg (fun _ => rfl) ?_
                    refine Ev.nxk (mvO rfl) ?_
                    refine Ev.rend ?_
                    intro e896 he897
                    have h898 : eget e896 2 = .bool false := envp he897 rfl rfl
                    clear h892 h893 h894
                    refine Ev.kseqN ?_
                    refine Ev.ex ?_
                    refine Ev.kseqR ?_
                    cases h
                    exact Ev.kendR (resT h898 res0) rfl
                  · refine Ev.nxcp (Ev.callT (v := .tup [.agg [.int .i64 0, .nils, .nils], .int .i64 2]) rfl (cns rfl rfl) rfl (impl_NewBook_ok r842 _ hx843) (th_gen (v' := .tup [.agg [.int .i64 0, .nils, .nils], .int .i64 2]) (l := []) (own_tup (oa1 (own2_agg (oa1 rfl (oa1 rfl (oa1 rfl oa0)))) (oa1 rfl oa0))) (by simp [thaw, thaw2, thaw1, thawL, thaw]) rfl rfl)) ?_
                    intro M902 hM903
                    have o904 := push_old hM903 o789
                    have o905 := push_old hM903 o790
                    refine Ev.nxk (mvO rfl) ?_
                    refine Ev.nxk (exT rfl rfl) ?_
                    refine Ev.nxk (exT rfl rfl) ?_
                    refine Ev.nxpush (alO zero25) ?_
                    intro M907 hM908
                    have o909 := push_old hM908 o904
                    have ne910 := ne_new o904
                    have o911 := push_old hM908 o905
                    have ne912 := ne_new o905
                    have o913 : M907[M902.length]? = some (.live ⟨.box, 25, 3, [[.int .i64 0, .nils, .nils]]⟩) := push_new hM908
                    refine Ev.nxput (stO rfl rfl o913 rfl rfl ⟨rfl, ble rfl⟩ rfl rfl) ?_
                    intro M914 hM915
                    have o916 := set_ne hM915 ne910 o909
                    have o917 := set_ne hM915 ne912 o911
                    have o918 : M914[M902.length]? = some (.live ⟨.box, 25, 3, [[.int .i64 0, .nils, .nils]]⟩) := set_same hM915 o913
                    refine Ev.nxk (mvO rfl) ?_
                    refine Ev.rend ?_
                    intro e919 he920
                    have h921 : eget e919 3 = .loc M529.length 1 0 0 := envp he920 rfl h832
                    have h922 : eget e919 4 = .int .i64 2 := envp he920 rfl h833
                    have h923 : eget e919 6 = .loc M631.length 1 0 0 := envp he920 rfl h834
                    have h924 : eget e919 9 = .int .i64 r784 := envp he920 rfl h835
                    have h925 : eget e919 11 = .loc M902.length 1 0 0 := envp he920 rfl rfl
                    have h926 : eget e919 12 = .int .i64 2 := envp he920 rfl rfl
                    clear h831 h832 h833 h834 h835 h836
                    refine Ev.kseqN ?_
                    refine Ev.seq ?_
                    refine Ev.seq ?_
                    obtain ⟨r982, hr983, h⟩ := bind_some h
                    refine Ev.cut (Q1 := laws_FnExactNewBook_c10_Q r784 M529.length M631.length M902.length r982) (by
                        have h := hr983
                        refine Ev.reg (fun _ => rfl) ?_
                        refine Ev.nxk (ldOA h925 o918 rfl rfl (ble rfl) rfl) ?_
                        refine Ev.nxk (ldOA h921 o916 rfl rfl (ble rfl) rfl) ?_
                        obtain ⟨r928, hx927, h⟩ := bind_some h
                        refine Ev.nxck (Ev.call (v := .bool r928) rfl (cns rfl (cns rfl rfl)) rfl (laws_eqBook_ok (Book.mk 0 ([] : List Int) ([] : List Tally)) (Book.mk 0 ([] : List Int) ([] : List Tally)) _ hx927) (fun h => nomatch (show false = true from h))) ?_
                        refine Ev.nxk (uNot rfl) ?_
                        refine Ev.nxk (mvO rfl) ?_
                        rcases ite_some h with ⟨hb929, h⟩ | ⟨hb929, h⟩
                        · refine Ev.nxk (guF rfl (congrArg Bool.not hb929) (mvO h926)) ?_
                          refine Ev.nxk (guF rfl (congrArg Bool.not hb929) (mvO h922)) ?_
                          refine Ev.nxk (guF rfl (congrArg Bool.not hb929) (bNeq rfl rfl)) ?_
                          refine Ev.nxk (pkF rfl (congrArg Bool.not hb929) rfl) ?_
                          refine Ev.rend ?_
                          intro e930 he931
                          have h932 : eget e930 6 = .loc M631.length 1 0 0 := envp he931 rfl h923
                          have h933 : eget e930 9 = .int .i64 r784 := envp he931 rfl h924
                          have h934 : eget e930 84 = .bool false := envp he931 rfl rfl
                          clear h921 h922 h923 h924 h925 h926
                          cases h
                          exact Ev.kid (show laws_FnExactNewBook_c10_Q r784 M529.length M631.length M902.length _ _ from (And.intro rfl (And.intro h932 (And.intro h933 (And.intro h934 o917)))))
                        · refine Ev.nxk (gsF rfl (congrArg Bool.not hb929)) ?_
                          refine Ev.nxk (gsF rfl (congrArg Bool.not hb929)) ?_
                          refine Ev.nxk (gsF rfl (congrArg Bool.not hb929)) ?_
                          refine Ev.nxk (pkT rfl (congrArg Bool.not hb929) rfl) ?_
                          refine Ev.rend ?_
                          intro e935 he936
                          have h937 : eget e935 6 = .loc M631.length 1 0 0 := envp he936 rfl h923
                          have h938 : eget e935 9 = .int .i64 r784 := envp he936 rfl h924
                          have h939 : eget e935 84 = .bool true := envp he936 rfl rfl
                          clear h921 h922 h923 h924 h925 h926
                          cases h
                          exact Ev.kid (show laws_FnExactNewBook_c10_Q r784 M529.length M631.length M902.length _ _ from (And.intro rfl (And.intro h937 (And.intro h938 (And.intro h939 o917)))))) ?_
                    revert h hr983
                    revert r982
                    intro y942 hr983 h
                    intro x e940 M941 hq981
                    obtain ⟨rfl, h943, h944, h945, o946⟩ := hq981
                    refine Ev.kseqN ?_
                    rcases ite_some h with ⟨hb947, h⟩ | ⟨hb947, h⟩
                    · refine Ev.condT h945 hb947 ?_
                      refine Ev.seq ?_
                      refine Ev.reg (fun _ => rfl) ?_
                      refine Ev.nxk (mvO rfl) ?_
                      refine Ev.rend ?_
                      intro e948 he949
                      have h950 : eget e948 2 = .bool false := envp he949 rfl rfl
                      clear h943 h944 h945
                      refine Ev.kseqN ?_
                      refine Ev.ex ?_
                      refine Ev.kseqR ?_
                      cases h
                      exact Ev.kendR (resT h950 res0) rfl
                    · refine Ev.condF h945 hb947 ?_
                      refine Ev.ex ?_
                      refine Ev.kseqN ?_
                      refine Ev.seq ?_
                      refine Ev.reg (fun _ => rfl) ?_
                      refine Ev.nxk (mvO rfl) ?_
                      refine Ev.rend ?_
                      intro e951 he952
                      have h953 : eget e951 6 = .loc M631.length 1 0 0 := envp he952 rfl h943
                      have h954 : eget e951 9 = .int .i64 r784 := envp he952 rfl h944
                      have h955 : eget e951 10 = .int .i64 1 := envp he952 rfl rfl
                      clear h943 h944 h945
                      refine Ev.kseqN ?_
                      refine Ev.seq ?_
                      refine Ev.reg (fun _ => rfl) ?_
                      refine Ev.nxk (ldOA h953 o946 rfl rfl (ble rfl) rfl) ?_
                      refine Ev.nxk (mvO h955) ?_
                      obtain ⟨r957, hx956, h⟩ := bind_some h
                      refine Ev.nxck (Ev.call (v := .int .i64 r957) rfl (cns rfl (cns rfl rfl)) rfl (laws_heldBook_ok (Book.mk 0 ([] : List Int) ([] : List Tally)) 1 _ hx956) (fun h => nomatch (show false = true from h))) ?_
                      refine Ev.nxk (mvO rfl) ?_
                      refine Ev.rend ?_
                      intro e958 he959
                      have h960 : eget e958 9 = .int .i64 r784 := envp he959 rfl h954
                      have h961 : eget e958 10 = .int .i64 r957 := envp he959 rfl rfl
                      clear h953 h954
                      refine Ev.kseqN ?_
                      refine Ev.seq ?_
                      refine Ev.seq ?_
                      refine Ev.reg (fun _ => rfl) ?_
                      refine Ev.nxk (mvO h961) ?_
                      refine Ev.nxk (bLss rfl rfl) ?_
                      refine Ev.rend ?_
                      intro e962 he963
                      have h964 : eget e962 9 = .int .i64 r784 := envp he963 rfl h960
                      have h965 : eget e962 10 = .int .i64 r957 := envp he963 rfl h961
                      have h966 : eget e962 89 = .bool (decide (r957 < 0)) := envp he963 rfl rfl
                      clear h960 h961
                      refine Ev.kseqN ?_
                      rcases ite_some h with ⟨hb967, h⟩ | ⟨hb967, h⟩
                      · refine Ev.condT h966 hb967 ?_
                        refine Ev.seq ?_
                        refine Ev.reg (fun _ => rfl) ?_
                        refine Ev.nxk (mvO rfl) ?_
                        refine Ev.rend ?_
                        intro e968 he969
                        have h970 : eget e968 2 = .bool false := envp he969 rfl rfl
                        clear h964 h965 h966
                        refine Ev.kseqN ?_
                        refine Ev.ex ?_
                        refine Ev.kseqR ?_
                        cases h
                        exact Ev.kendR (resT h970 res0) rfl
                      · refine Ev.condF h966 hb967 ?_
                        refine Ev.ex ?_
                        refine Ev.kseqN ?_
                        refine Ev.seq ?_
                        refine Ev.seq ?_
                        refine Ev.reg (fun _ => rfl) ?_
                        refine Ev.nxk (mvO h965) ?_
                        refine Ev.nxk (mvO h964) ?_
                        refine Ev.nxk (bNeq rfl rfl) ?_
                        refine Ev.rend ?_
                        intro e971 he972
                        have h973 : eget e971 92 = .bool (r957 != r784) := envp he972 rfl rfl
                        clear h964 h965 h966
                        refine Ev.kseqN ?_
                        rcases ite_some h with ⟨hb974, h⟩ | ⟨hb974, h⟩
                        · refine Ev.condT h973 hb974 ?_
                          refine Ev.seq ?_
                          refine Ev.reg (fun _ => rfl) ?_
                          refine Ev.nxk (mvO rfl) ?_
                          refine Ev.rend ?_
                          intro e975 he976
                          have h977 : eget e975 2 = .bool false := envp he976 rfl rfl
                          clear h973
                          refine Ev.kseqN ?_
                          refine Ev.ex ?_
                          refine Ev.kseqR ?_
                          cases h
                          exact Ev.kendR (resT h977 res0) rfl
                        · refine Ev.condF h973 hb974 ?_
                          refine Ev.ex ?_
                          refine Ev.kseqN ?_
                          refine Ev.seq ?_
                          refine Ev.reg (fun _ => rfl) ?_
                          refine Ev.nxk (mvO rfl) ?_
                          refine Ev.rend ?_
                          intro e978 he979
                          have h980 : eget e978 2 = .bool true := envp he979 rfl rfl
                          clear h973
                          refine Ev.kseqN ?_
                          refine Ev.ex ?_
                          cases h
                          exact Ev.kendR (resT h980 res0) rfl
          · refine Ev.condT h706 (congrArg Bool.not hb707) ?_
            refine Ev.seq ?_
            refine Ev.reg (fun _ => rfl) ?_
            refine Ev.nxk (mvO rfl) ?_
            refine Ev.rend ?_
            intro e988 he989
            have h990 : eget e988 2 = .bool false := envp he989 rfl rfl
            clear h700 h701 h702 h703 h704 h705 h706
            refine Ev.kseqN ?_
            refine Ev.ex ?_
            refine Ev.kseqR ?_
            cases h
            exact Ev.kendR (resT h990 res0) rfl
end Go.Proofs.Ytaocojognonkcab
