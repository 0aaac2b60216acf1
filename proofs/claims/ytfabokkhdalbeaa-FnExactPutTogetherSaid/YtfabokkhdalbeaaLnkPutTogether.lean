/- Printed by a program of ours (ext.py). -/
import Derived.Test.YtfabokkhdalbeaaLnkPutTogetherx0
set_option linter.unusedVariables false
set_option maxRecDepth 100000
set_option maxHeartbeats 2000000
namespace Go.Proofs.Ytfabokkhdalbeaa
open Go Go.Ab
/-! ### loop.example/g01263/laws.FnExactPutTogether (f6) -/
def laws_FnExactPutTogether_c1_Q (a1 : List Deal) (a2 : List Deal) (r48 : List Deal) (r49 : Int) (r57 : List Deal) (r70 : List Deal) (r86 : Int) (i901_1 : Nat) (i901_2 : Nat) (g : Bool) (q : Out) : Prop := q.1 = .nrm ∧ eget q.2.1 0 = .sl none (a1.map Deal.c) ∧ eget q.2.1 1 = .sl none (a2.map Deal.c) ∧ eget q.2.1 6 = .sl (some 85) (r48.map Deal.c) ∧ eget q.2.1 7 = .int .i64 r49 ∧ eget q.2.1 8 = .lsl i901_1 r57.length 0 r57.length ∧ eget q.2.1 9 = .lsl i901_2 r70.length 0 r70.length ∧ eget q.2.1 10 = .nils ∧ eget q.2.1 11 = .int .i64 r86 ∧ eget q.2.1 53 = .bool g ∧ q.2.2[i901_1]? = some (.live ⟨.grow, 85, 6, r57.map Deal.c⟩) ∧ q.2.2[i901_2]? = some (.live ⟨.grow, 85, 6, r70.map Deal.c⟩)
def laws_FnExactPutTogether_c2_Q (a1 : List Deal) (a2 : List Deal) (r48 : List Deal) (r49 : Int) (g : Bool) (q : Out) : Prop := q.1 = .nrm ∧ eget q.2.1 0 = .sl none (a1.map Deal.c) ∧ eget q.2.1 1 = .sl none (a2.map Deal.c) ∧ eget q.2.1 6 = .sl (some 85) (r48.map Deal.c) ∧ eget q.2.1 7 = .int .i64 r49 ∧ eget q.2.1 10 = .nils ∧ eget q.2.1 82 = .bool g
def laws_FnExactPutTogether_c3_Q (r277 : Int) (g : Bool) (q : Out) : Prop := q.1 = .nrm ∧ eget q.2.1 10 = .nils ∧ eget q.2.1 13 = .int .i64 r277 ∧ eget q.2.1 110 = .bool g
def laws_FnExactPutTogether_c4_Q (r277 : Int) (g : Bool) (q : Out) : Prop := q.1 = .nrm ∧ eget q.2.1 10 = .nils ∧ eget q.2.1 13 = .int .i64 r277 ∧ eget q.2.1 110 = .bool g
def laws_FnExactPutTogether_c5_Q (a1 : List Deal) (a2 : List Deal) (r48 : List Deal) (r49 : Int) (r57 : List Deal) (r70 : List Deal) (r485 : List Deal) (i905_1 : Nat) (i905_2 : Nat) (i905_3 : Nat) (g : Bool) (q : Out) : Prop := q.1 = .nrm ∧ eget q.2.1 0 = .sl none (a1.map Deal.c) ∧ eget q.2.1 1 = .sl none (a2.map Deal.c) ∧ eget q.2.1 6 = .sl (some 85) (r48.map Deal.c) ∧ eget q.2.1 7 = .int .i64 r49 ∧ eget q.2.1 8 = .lsl i905_1 r57.length 0 r57.length ∧ eget q.2.1 9 = .lsl i905_2 r70.length 0 r70.length ∧ eget q.2.1 10 = .lsl i905_3 r485.length 0 r485.length ∧ eget q.2.1 11 = .int .i64 0 ∧ eget q.2.1 53 = .bool g ∧ q.2.2[i905_3]? = some (.live ⟨.grow, 85, 6, r485.map Deal.c⟩) ∧ q.2.2[i905_1]? = some (.live ⟨.grow, 85, 6, r57.map Deal.c⟩) ∧ q.2.2[i905_2]? = some (.live ⟨.grow, 85, 6, r70.map Deal.c⟩)
def laws_FnExactPutTogether_c6_Q (a1 : List Deal) (a2 : List Deal) (r48 : List Deal) (r49 : Int) (r485 : List Deal) (i906_1 : Nat) (g : Bool) (q : Out) : Prop := q.1 = .nrm ∧ eget q.2.1 0 = .sl none (a1.map Deal.c) ∧ eget q.2.1 1 = .sl none (a2.map Deal.c) ∧ eget q.2.1 6 = .sl (some 85) (r48.map Deal.c) ∧ eget q.2.1 7 = .int .i64 r49 ∧ eget q.2.1 10 = .lsl i906_1 r485.length 0 r485.length ∧ eget q.2.1 82 = .bool g ∧ q.2.2[i906_1]? = some (.live ⟨.grow, 85, 6, r485.map Deal.c⟩)
def laws_FnExactPutTogether_c7_Q (r684 : Int) (r685 : List Deal) (i907_1 : Nat) (g : Bool) (q : Out) : Prop := q.1 = .nrm ∧ eget q.2.1 10 = .lsl i907_1 r685.length 0 r685.length ∧ eget q.2.1 13 = .int .i64 r684 ∧ eget q.2.1 110 = .bool g ∧ q.2.2[i907_1]? = some (.live ⟨.grow, 85, 6, r685.map Deal.c⟩)
def laws_FnExactPutTogether_c8_Q (r684 : Int) (r685 : List Deal) (i908_1 : Nat) (g : Bool) (q : Out) : Prop := q.1 = .nrm ∧ eget q.2.1 10 = .lsl i908_1 r685.length 0 r685.length ∧ eget q.2.1 13 = .int .i64 r684 ∧ eget q.2.1 110 = .bool g ∧ q.2.2[i908_1]? = some (.live ⟨.grow, 85, 6, r685.map Deal.c⟩)
noncomputable def laws_FnExactPutTogether (a1 : List Deal) (a2 : List Deal) : Option Bool :=
  (laws_szDealS a1 1048576).bind fun r11 =>
  if (decide (r11 < 0)) = true then
    some true
  else
    (laws_szDealS a2 r11).bind fun r28 =>
    if (decide (r28 < 0)) = true then
      some true
    else
      (laws_toDealS a1).bind fun r44 =>
      (laws_toDealS a2).bind fun r46 =>
      (spec_PutTogether r44 r46).bind fun (r48, r49) =>
      (laws_toDealS a1).bind fun r57 =>
      (laws_toDealS a2).bind fun r70 =>
      (impl_PutTogether r57 r70).bind fun r => match r with
      | (.inl r86) =>
        ((laws_eqDealS ([] : List Deal) r48).bind fun r102 =>
        if r102 = true then
          some (r86 != r49)
        else
          some true).bind fun y128 =>
        if y128 = true then
          some false
        else
          (laws_toDealS a1).bind fun r145 =>
          (laws_eqDealS r57 r145).bind fun r147 =>
          if r147 = true then
            (laws_toDealS a2).bind fun r161 =>
            (laws_eqDealS r70 r161).bind fun r163 =>
            if r163 = true then
              (laws_markDealS_l r57 1).bind fun (r188, r189) =>
              (laws_markDealS_l r70 r188).bind fun (r209, r210) =>
              (if (decide (r209 < 0)) = true then
                some true
              else
                (laws_eqDealS ([] : List Deal) r48).bind fun r237 =>
                if r237 = true then
                  some (r86 != r49)
                else
                  some true).bind fun y257 =>
              if y257 = true then
                some false
              else
                (laws_markDealS_n 1).bind fun r277 =>
                (laws_heldDealS ([] : List Deal) 1).bind fun r300 =>
                if (decide (r300 < 0)) = true then
                  some false
                else
                  if (r300 != r277) = true then
                    some false
                  else
                    (laws_toDealS a1).bind fun r338 =>
                    (laws_toDealS a2).bind fun r340 =>
                    (impl_PutTogether r338 r340).bind fun r => match r with
                    | (.inl r342) =>
                      ((laws_eqDealS ([] : List Deal) r48).bind fun r352 =>
                      if r352 = true then
                        some (r342 != r49)
                      else
                        some true).bind fun y366 =>
                      if y366 = true then
                        some false
                      else
                        (laws_heldDealS ([] : List Deal) 1).bind fun r380 =>
                        if (decide (r380 < 0)) = true then
                          some false
                        else
                          if (r380 != r277) = true then
                            some false
                          else
                            some true
                    | (.inr r407) =>
                      ((laws_eqDealS r407 r48).bind fun r417 =>
                      if r417 = true then
                        some (0 != r49)
                      else
                        some true).bind fun y431 =>
                      if y431 = true then
                        some false
                      else
                        (laws_heldDealS ([] : List Deal) 1).bind fun r445 =>
                        if (decide (r445 < 0)) = true then
                          some false
                        else
                          if (r445 != r277) = true then
                            some false
                          else
                            some true
            else
              some false
          else
            some false
      | (.inr r485) =>
        ((laws_eqDealS r485 r48).bind fun r505 =>
        if r505 = true then
          some (0 != r49)
        else
          some true).bind fun y531 =>
        if y531 = true then
          some false
        else
          (laws_toDealS a1).bind fun r549 =>
          (laws_eqDealS r57 r549).bind fun r551 =>
          if r551 = true then
            (laws_toDealS a2).bind fun r565 =>
            (laws_eqDealS r70 r565).bind fun r567 =>
            if r567 = true then
              (laws_markDealS_l r57 1).bind fun (r592, r593) =>
              (laws_markDealS_l r70 r592).bind fun (r614, r615) =>
              (if (decide (r614 < 0)) = true then
                some true
              else
                (laws_eqDealS r485 r48).bind fun r643 =>
                if r643 = true then
                  some (0 != r49)
                else
                  some true).bind fun y663 =>
              if y663 = true then
                some false
              else
                (laws_markDealS_l r485 1).bind fun (r684, r685) =>
                (laws_heldDealS r685 1).bind fun r711 =>
                if (decide (r711 < 0)) = true then
                  some false
                else
                  if (r711 != r684) = true then
                    some false
                  else
                    (laws_toDealS a1).bind fun r749 =>
                    (laws_toDealS a2).bind fun r751 =>
                    (impl_PutTogether r749 r751).bind fun r => match r with
                    | (.inl r753) =>
                      ((laws_eqDealS ([] : List Deal) r48).bind fun r763 =>
                      if r763 = true then
                        some (r753 != r49)
                      else
                        some true).bind fun y777 =>
                      if y777 = true then
                        some false
                      else
                        (laws_heldDealS r685 1).bind fun r792 =>
                        if (decide (r792 < 0)) = true then
                          some false
                        else
                          if (r792 != r684) = true then
                            some false
                          else
                            some true
                    | (.inr r819) =>
                      ((laws_eqDealS r819 r48).bind fun r829 =>
                      if r829 = true then
                        some (0 != r49)
                      else
                        some true).bind fun y843 =>
                      if y843 = true then
                        some false
                      else
                        (laws_heldDealS r685 1).bind fun r858 =>
                        if (decide (r858 < 0)) = true then
                          some false
                        else
                          if (r858 != r684) = true then
                            some false
                          else
                            some true
            else
              some false
          else
            some false
def laws_FnExactPutTogether_enc (r : Bool) : AV := .bool r
theorem laws_FnExactPutTogether_ok (a1 : List Deal) (a2 : List Deal) (r : Bool) (h : laws_FnExactPutTogether a1 a2 = some r) : Ev (fun k => CN k 6 [.sl none (a1.map Deal.c), .sl none (a2.map Deal.c)] []) (fun p => rRes p.2 p.1 = laws_FnExactPutTogether_enc r) := by
  unfold laws_FnExactPutTogether at h
  refine Ev.enter (F := fun k => f6 (CN k) k) (fun k => callN_eq rfl Try.func6 rfl rfl rfl (by decide +kernel) (f6_eq _ _)) ?_
  refine Ev.seq ?_
  refine Ev.reg (fun _ => rfl) ?_
  refine Ev.nxk (mvO rfl) ?_
  refine Ev.rend ?_
  intro e1 he2
  have h3 : eget e1 0 = .sl none (a1.map Deal.c) := envp he2 rfl rfl
  have h4 : eget e1 1 = .sl none (a2.map Deal.c) := envp he2 rfl rfl
  refine Ev.kseqN ?_
  refine Ev.seq ?_
  refine Ev.reg (fun _ => rfl) ?_
  refine Ev.nxk (mvO rfl) ?_
  refine Ev.rend ?_
  intro e5 he6
  have h7 : eget e5 0 = .sl none (a1.map Deal.c) := envp he6 rfl h3
  have h8 : eget e5 1 = .sl none (a2.map Deal.c) := envp he6 rfl h4
  have h9 : eget e5 5 = .int .i64 1048576 := envp he6 rfl rfl
  clear h3 h4
  refine Ev.kseqN ?_
  refine Ev.seq ?_
  refine Ev.reg (fun _ => rfl) ?_
  refine Ev.nxk (mvO h7) ?_
  refine Ev.nxk (mvO h9) ?_
  obtain ⟨r11, hx10, h⟩ := bind_some h
  refine Ev.nxck (Ev.call (v := .int .i64 r11) rfl (cns rfl (cns rfl rfl)) rfl (laws_szDealS_ok a1 1048576 _ hx10) (fun h => nomatch (show false = true from h))) ?_
  refine Ev.nxk (mvO rfl) ?_
  refine Ev.rend ?_
  intro e12 he13
  have h14 : eget e12 0 = .sl none (a1.map Deal.c) := envp he13 rfl h7
  have h15 : eget e12 1 = .sl none (a2.map Deal.c) := envp he13 rfl h8
  have h16 : eget e12 5 = .int .i64 r11 := envp he13 rfl rfl
  clear h7 h8
  refine Ev.kseqN ?_
  refine Ev.seq ?_
  refine Ev.seq ?_
  refine Ev.reg (fun _ => rfl) ?_
  refine Ev.nxk (mvO h16) ?_
  refine Ev.nxk (bLss rfl rfl) ?_
  refine Ev.rend ?_
  intro e17 he18
  have h19 : eget e17 0 = .sl none (a1.map Deal.c) := envp he18 rfl h14
  have h20 : eget e17 1 = .sl none (a2.map Deal.c) := envp he18 rfl h15
  have h21 : eget e17 5 = .int .i64 r11 := envp he18 rfl h16
  have h22 : eget e17 21 = .bool (decide (r11 < 0)) := envp he18 rfl rfl
  clear h14 h15 h16
  refine Ev.kseqN ?_
  rcases ite_some h with ⟨hb23, h⟩ | ⟨hb23, h⟩
  · refine Ev.condT h22 hb23 ?_
    refine Ev.seq ?_
    refine Ev.reg (fun _ => rfl) ?_
    refine Ev.nxk (mvO rfl) ?_
    refine Ev.rend ?_
    intro e24 he25
    have h26 : eget e24 4 = .bool true := envp he25 rfl rfl
    clear h19 h20 h21 h22
    refine Ev.kseqN ?_
    refine Ev.ex ?_
    refine Ev.kseqR ?_
    cases h
    exact Ev.kendR (resT h26 res0) rfl
  · refine Ev.condF h22 hb23 ?_
    refine Ev.ex ?_
    refine Ev.kseqN ?_
    refine Ev.seq ?_
    refine Ev.reg (fun _ => rfl) ?_
    refine Ev.nxk (mvO h20) ?_
    refine Ev.nxk (mvO h21) ?_
    obtain ⟨r28, hx27, h⟩ := bind_some h
    refine Ev.nxck (Ev.call (v := .int .i64 r28) rfl (cns rfl (cns rfl rfl)) rfl (laws_szDealS_ok a2 r11 _ hx27) (fun h => nomatch (show false = true from h))) ?_
    refine Ev.nxk (mvO rfl) ?_
    refine Ev.rend ?_
    intro e29 he30
    have h31 : eget e29 0 = .sl none (a1.map Deal.c) := envp he30 rfl h19
    have h32 : eget e29 1 = .sl none (a2.map Deal.c) := envp he30 rfl h20
    have h33 : eget e29 5 = .int .i64 r28 := envp he30 rfl rfl
    clear h19 h20 h22
    refine Ev.kseqN ?_
    refine Ev.seq ?_
    refine Ev.seq ?_
    refine Ev.reg (fun _ => rfl) ?_
    refine Ev.nxk (mvO h33) ?_
    refine Ev.nxk (bLss rfl rfl) ?_
    refine Ev.rend ?_
    intro e34 he35
    have h36 : eget e34 0 = .sl none (a1.map Deal.c) := envp he35 rfl h31
    have h37 : eget e34 1 = .sl none (a2.map Deal.c) := envp he35 rfl h32
    have h38 : eget e34 26 = .bool (decide (r28 < 0)) := envp he35 rfl rfl
    clear h31 h32 h33
    refine Ev.kseqN ?_
    rcases ite_some h with ⟨hb39, h⟩ | ⟨hb39, h⟩
    · refine Ev.condT h38 hb39 ?_
      refine Ev.seq ?_
      refine Ev.reg (fun _ => rfl) ?_
      refine Ev.nxk (mvO rfl) ?_
      refine Ev.rend ?_
      intro e40 he41
      have h42 : eget e40 4 = .bool true := envp he41 rfl rfl
      clear h36 h37 h38
      refine Ev.kseqN ?_
      refine Ev.ex ?_
      refine Ev.kseqR ?_
      cases h
      exact Ev.kendR (resT h42 res0) rfl
    · refine Ev.condF h38 hb39 ?_
      refine Ev.ex ?_
      refine Ev.kseqN ?_
      refine Ev.seq ?_
      refine Ev.reg (fun _ => rfl) ?_
      refine Ev.nxk (mvO h36) ?_
      obtain ⟨r44, hx43, h⟩ := bind_some h
      refine Ev.nxck (Ev.call (v := .sl (some 85) (r44.map Deal.c)) rfl (cns rfl rfl) rfl (laws_toDealS_ok a1 _ hx43) (fun h => nomatch (show false = true from h))) ?_
      refine Ev.nxk (mvO h37) ?_
      obtain ⟨r46, hx45, h⟩ := bind_some h
      refine Ev.nxck (Ev.call (v := .sl (some 85) (r46.map Deal.c)) rfl (cns rfl rfl) rfl (laws_toDealS_ok a2 _ hx45) (fun h => nomatch (show false = true from h))) ?_
      obtain ⟨⟨r48, r49⟩, hx47, h⟩ := bind_some h
      refine Ev.nxck (Ev.call (v := .tup [.sl (some 85) (r48.map Deal.c), .int .i64 r49]) rfl (cns rfl (cns rfl rfl)) rfl (spec_PutTogether_ok r44 r46 _ hx47) (fun h => nomatch (show false = true from h))) ?_
      refine Ev.nxk (mvO rfl) ?_
      refine Ev.nxk (exT rfl rfl) ?_
      refine Ev.nxk (exT rfl rfl) ?_
      refine Ev.nxk (mvO rfl) ?_
      refine Ev.nxk (mvO rfl) ?_
      refine Ev.rend ?_
      intro e50 he51
      have h52 : eget e50 0 = .sl none (a1.map Deal.c) := envp he51 rfl h36
      have h53 : eget e50 1 = .sl none (a2.map Deal.c) := envp he51 rfl h37
      have h54 : eget e50 6 = .sl (some 85) (r48.map Deal.c) := envp he51 rfl rfl
      have h55 : eget e50 7 = .int .i64 r49 := envp he51 rfl rfl
      clear h36 h37 h38
      refine Ev.kseqN ?_
      refine Ev.seq ?_
      refine Ev.reg (fun _ => rfl) ?_
      refine Ev.nxk (mvO h52) ?_
      obtain ⟨r57, hx56, h⟩ := bind_some h
      refine Ev.nxcp (Ev.callT (v := .sl (some 85) (r57.map Deal.c)) rfl (cns rfl rfl) rfl (laws_toDealS_ok a1 _ hx56) (th_gen (v' := .lsl ([] : Mem).length r57.length 0 r57.length) (l := [⟨.grow, 85, 6, r57.map Deal.c⟩]) (ownA_row (c := Deal.c) Deal.flF) (by simp [thaw, thaw2, thaw1, thawL, co85]) rfl rfl)) ?_
      intro M59 hM60
      have o61 : M59[([] : Mem).length]? = some (.live ⟨.grow, 85, 6, r57.map Deal.c⟩) := push_at hM60 0 rfl
      refine Ev.nxk (mvO rfl) ?_
      refine Ev.rend ?_
      intro e62 he63
      have h64 : eget e62 0 = .sl none (a1.map Deal.c) := envp he63 rfl h52
      have h65 : eget e62 1 = .sl none (a2.map Deal.c) := envp he63 rfl h53
      have h66 : eget e62 6 = .sl (some 85) (r48.map Deal.c) := envp he63 rfl h54
      have h67 : eget e62 7 = .int .i64 r49 := envp he63 rfl h55
      have h68 : eget e62 8 = .lsl ([] : Mem).length r57.length 0 r57.length := envp he63 rfl rfl
      clear h52 h53 h54 h55
      refine Ev.kseqN ?_
      refine Ev.seq ?_
      refine Ev.reg (fun _ => rfl) ?_
      refine Ev.nxk (mvO h65) ?_
      obtain ⟨r70, hx69, h⟩ := bind_some h
      refine Ev.nxcp (Ev.callT (v := .sl (some 85) (r70.map Deal.c)) rfl (cns rfl rfl) rfl (laws_toDealS_ok a2 _ hx69) (th_gen (v' := .lsl M59.length r70.length 0 r70.length) (l := [⟨.grow, 85, 6, r70.map Deal.c⟩]) (ownA_row (c := Deal.c) Deal.flF) (by simp [thaw, thaw2, thaw1, thawL, co85]) rfl rfl)) ?_
      intro M72 hM73
      have o74 := push_old hM73 o61
      have ne75 : ([] : Mem).length ≠ M59.length := by have := lt_of_get o61; omega
      have o76 : M72[M59.length]? = some (.live ⟨.grow, 85, 6, r70.map Deal.c⟩) := push_at hM73 0 rfl
      refine Ev.nxk (mvO rfl) ?_
      refine Ev.rend ?_
      intro e77 he78
      have h79 : eget e77 0 = .sl none (a1.map Deal.c) := envp he78 rfl h64
      have h80 : eget e77 1 = .sl none (a2.map Deal.c) := envp he78 rfl h65
      have h81 : eget e77 6 = .sl (some 85) (r48.map Deal.c) := envp he78 rfl h66
      have h82 : eget e77 7 = .int .i64 r49 := envp he78 rfl h67
      have h83 : eget e77 8 = .lsl ([] : Mem).length r57.length 0 r57.length := envp he78 rfl h68
      have h84 : eget e77 9 = .lsl M59.length r70.length 0 r70.length := envp he78 rfl rfl
      clear h64 h65 h66 h67 h68
      refine Ev.kseqN ?_
      refine Ev.seq ?_
      refine Ev.reg (fun _ => rfl) ?_
      refine Ev.nxk (mvO h83) ?_
      refine Ev.nxk (mvO h84) ?_
      obtain ⟨q898, hx85, h⟩ := bind_some h
      rcases q898 with r86 | r485
      · refine Ev.nxcp (Ev.callT (v := .tup [.nils, .int .i64 r86]) rfl (cns rfl (cns rfl rfl)) (ra1 (ra1_row o74 rfl Deal.fl) (ra1 (ra1_row o76 rfl Deal.fl) ra0)) (impl_PutTogether_ok r57 r70 _ hx85) (th_gen (v' := .tup [.nils, .int .i64 r86]) (l := []) (own_tup (oa1 rfl (oa1 rfl oa0))) (by simp [thaw, thaw2, thaw1, thawL, thaw]) rfl rfl)) ?_
        intro M87 hM88
        have o89 := push_old hM88 o74
        have o90 := push_old hM88 o76
        refine Ev.nxk (mvO rfl) ?_
        refine Ev.nxk (exT rfl rfl) ?_
        refine Ev.nxk (exT rfl rfl) ?_
        refine Ev.nxk (mvO rfl) ?_
        refine Ev.nxk (mvO rfl) ?_
        refine Ev.rend ?_
        intro e91 he92
        have h93 : eget e91 0 = .sl none (a1.map Deal.c) := envp he92 rfl h79
        have h94 : eget e91 1 = .sl none (a2.map Deal.c) := envp he92 rfl h80
        have h95 : eget e91 6 = .sl (some 85) (r48.map Deal.c) := envp he92 rfl h81
        have h96 : eget e91 7 = .int .i64 r49 := envp he92 rfl h82
        have h97 : eget e91 8 = .lsl ([] : Mem).length r57.length 0 r57.length := envp he92 rfl h83
        have h98 : eget e91 9 = .lsl M59.length r70.length 0 r70.length := envp he92 rfl h84
        have h99 : eget e91 10 = .nils := envp he92 rfl rfl
        have h100 : eget e91 11 = .int .i64 r86 := envp he92 rfl rfl
        clear h79 h80 h81 h82 h83 h84
        refine Ev.kseqN ?_
        refine Ev.seq ?_
        refine Ev.seq ?_
        obtain ⟨r483, hr484, h⟩ := bind_some h
        refine Ev.cut (Q1 := laws_FnExactPutTogether_c1_Q a1 a2 r48 r49 r57 r70 r86 (([] : Mem).length) M59.length r483) (by
            have h := hr484
            refine Ev.reg (fun _ => rfl) ?_
            refine Ev.nxk (mvO h99) ?_
            refine Ev.nxk (mvO h95) ?_
            obtain ⟨r102, hx101, h⟩ := bind_some h
            refine Ev.nxck (Ev.call (v := .bool r102) rfl (cns rfl (cns rfl rfl)) rfl (laws_eqDealS_ok ([] : List Deal) r48 _ hx101) (fun h => nomatch (show false = true from h))) ?_
            refine Ev.nxk (uNot rfl) ?_
            refine Ev.nxk (mvO rfl) ?_
            rcases ite_some h with ⟨hb103, h⟩ | ⟨hb103, h⟩
            · refine Ev.nxk (guF rfl (congrArg Bool.not hb103) (mvO h100)) ?_
              refine Ev.nxk (guF rfl (congrArg Bool.not hb103) (mvO h96)) ?_
              refine Ev.nxk (guF rfl (congrArg Bool.not hb103) (bNeq rfl rfl)) ?_
              refine Ev.nxk (pkF rfl (congrArg Bool.not hb103) rfl) ?_
              refine Ev.rend ?_
              intro e104 he105
              have h106 : eget e104 0 = .sl none (a1.map Deal.c) := envp he105 rfl h93
              have h107 : eget e104 1 = .sl none (a2.map Deal.c) := envp he105 rfl h94
              have h108 : eget e104 6 = .sl (some 85) (r48.map Deal.c) := envp he105 rfl h95
              have h109 : eget e104 7 = .int .i64 r49 := envp he105 rfl h96
              have h110 : eget e104 8 = .lsl ([] : Mem).length r57.length 0 r57.length := envp he105 rfl h97
              have h111 : eget e104 9 = .lsl M59.length r70.length 0 r70.length := envp he105 rfl h98
              have h112 : eget e104 10 = .nils := envp he105 rfl h99
              have h113 : eget e104 11 = .int .i64 r86 := envp he105 rfl h100
              have h114 : eget e104 53 = .bool (r86 != r49) := envp he105 rfl rfl
              clear h100 h93 h94 h95 h96 h97 h98 h99
              cases h
              exact Ev.kid (show laws_FnExactPutTogether_c1_Q a1 a2 r48 r49 r57 r70 r86 (([] : Mem).length) M59.length _ _ from (And.intro rfl (And.intro h106 (And.intro h107 (And.intro h108 (And.intro h109 (And.intro h110 (And.intro h111 (And.intro h112 (And.intro h113 (And.intro h114 (And.intro o89 o90))))))))))))
            · refine Ev.nxk (gsF rfl (congrArg Bool.not hb103)) ?_
              refine Ev.nxk (gsF rfl (congrArg Bool.not hb103)) ?_
              refine Ev.nxk (gsF rfl (congrArg Bool.not hb103)) ?_
              refine Ev.nxk (pkT rfl (congrArg Bool.not hb103) rfl) ?_
              refine Ev.rend ?_
              intro e115 he116
              have h117 : eget e115 0 = .sl none (a1.map Deal.c) := envp he116 rfl h93
              have h118 : eget e115 1 = .sl none (a2.map Deal.c) := envp he116 rfl h94
              have h119 : eget e115 6 = .sl (some 85) (r48.map Deal.c) := envp he116 rfl h95
              have h120 : eget e115 7 = .int .i64 r49 := envp he116 rfl h96
              have h121 : eget e115 8 = .lsl ([] : Mem).length r57.length 0 r57.length := envp he116 rfl h97
              have h122 : eget e115 9 = .lsl M59.length r70.length 0 r70.length := envp he116 rfl h98
              have h123 : eget e115 10 = .nils := envp he116 rfl h99
              have h124 : eget e115 11 = .int .i64 r86 := envp he116 rfl h100
              have h125 : eget e115 53 = .bool true := envp he116 rfl rfl
              clear h100 h93 h94 h95 h96 h97 h98 h99
              cases h
              exact Ev.kid (show laws_FnExactPutTogether_c1_Q a1 a2 r48 r49 r57 r70 r86 (([] : Mem).length) M59.length _ _ from (And.intro rfl (And.intro h117 (And.intro h118 (And.intro h119 (And.intro h120 (And.intro h121 (And.intro h122 (And.intro h123 (And.intro h124 (And.intro h125 (And.intro o89 o90))))))))))))) ?_
        revert h hr484
        revert r483
        intro y128 hr484 h
        intro x e126 M127 hq482
        obtain ⟨rfl, h129, h130, h131, h132, h133, h134, h135, h136, h137, o138, o139⟩ := hq482
        refine Ev.kseqN ?_
        rcases ite_some h with ⟨hb140, h⟩ | ⟨hb140, h⟩
        · refine Ev.condT h137 hb140 ?_
          refine Ev.seq ?_
          refine Ev.reg (fun _ => rfl) ?_
          refine Ev.nxk (mvO rfl) ?_
          refine Ev.rend ?_
          intro e141 he142
          have h143 : eget e141 4 = .bool false := envp he142 rfl rfl
          clear h129 h130 h131 h132 h133 h134 h135 h136 h137
          refine Ev.kseqN ?_
          refine Ev.ex ?_
          refine Ev.kseqR ?_
          cases h
          exact Ev.kendR (resT h143 res0) rfl
        · refine Ev.condF h137 hb140 ?_
          refine Ev.ex ?_
          refine Ev.kseqN ?_
          refine Ev.seq ?_
          refine Ev.seq ?_
          refine Ev.reg (fun _ => rfl) ?_
          refine Ev.nxk (mvO h133) ?_
          refine Ev.nxk (mvO h129) ?_
          obtain ⟨r145, hx144, h⟩ := bind_some h
          refine Ev.nxck (Ev.call (v := .sl (some 85) (r145.map Deal.c)) rfl (cns rfl rfl) rfl (laws_toDealS_ok a1 _ hx144) (fun h => nomatch (show false = true from h))) ?_
          obtain ⟨r147, hx146, h⟩ := bind_some h
          refine Ev.nxck (Ev.call (v := .bool r147) rfl (cns rfl (cns rfl rfl)) (ra1 (ra1_row o138 rfl Deal.fl) (ra1 rfl ra0)) (laws_eqDealS_ok r57 r145 _ hx146) (fun _ => rfl)) ?_
          refine Ev.nxk (uNot rfl) ?_
          refine Ev.rend ?_
          intro e148 he149
          have h150 : eget e148 0 = .sl none (a1.map Deal.c) := envp he149 rfl h129
          have h151 : eget e148 1 = .sl none (a2.map Deal.c) := envp he149 rfl h130
          have h152 : eget e148 6 = .sl (some 85) (r48.map Deal.c) := envp he149 rfl h131
          have h153 : eget e148 7 = .int .i64 r49 := envp he149 rfl h132
          have h154 : eget e148 8 = .lsl ([] : Mem).length r57.length 0 r57.length := envp he149 rfl h133
          have h155 : eget e148 9 = .lsl M59.length r70.length 0 r70.length := envp he149 rfl h134
          have h156 : eget e148 10 = .nils := envp he149 rfl h135
          have h157 : eget e148 11 = .int .i64 r86 := envp he149 rfl h136
          have h158 : eget e148 58 = .bool (!r147) := envp he149 rfl rfl
          clear h129 h130 h131 h132 h133 h134 h135 h136 h137
          refine Ev.kseqN ?_
          rcases ite_some h with ⟨hb159, h⟩ | ⟨hb159, h⟩
          · refine Ev.condF h158 (congrArg Bool.not hb159) ?_
            refine Ev.ex ?_
            refine Ev.kseqN ?_
            refine Ev.seq ?_
            refine Ev.seq ?_
            refine Ev.reg (fun _ => rfl) ?_
            refine Ev.nxk (mvO h155) ?_
            refine Ev.nxk (mvO h151) ?_
            obtain ⟨r161, hx160, h⟩ := bind_some h
            refine Ev.nxck (Ev.call (v := .sl (some 85) (r161.map Deal.c)) rfl (cns rfl rfl) rfl (laws_toDealS_ok a2 _ hx160) (fun h => nomatch (show false = true from h))) ?_
            obtain ⟨r163, hx162, h⟩ := bind_some h
            refine Ev.nxck (Ev.call (v := .bool r163) rfl (cns rfl (cns rfl rfl)) (ra1 (ra1_row o139 rfl Deal.fl) (ra1 rfl ra0)) (laws_eqDealS_ok r70 r161 _ hx162) (fun _ => rfl)) ?_
            refine Ev.nxk (uNot rfl) ?_
            refine Ev.rend ?_
            intro e164 he165
            have h166 : eget e164 0 = .sl none (a1.map Deal.c) := envp he165 rfl h150
            have h167 : eget e164 1 = .sl none (a2.map Deal.c) := envp he165 rfl h151
            have h168 : eget e164 6 = .sl (some 85) (r48.map Deal.c) := envp he165 rfl h152
            have h169 : eget e164 7 = .int .i64 r49 := envp he165 rfl h153
            have h170 : eget e164 8 = .lsl ([] : Mem).length r57.length 0 r57.length := envp he165 rfl h154
            have h171 : eget e164 9 = .lsl M59.length r70.length 0 r70.length := envp he165 rfl h155
            have h172 : eget e164 10 = .nils := envp he165 rfl h156
            have h173 : eget e164 11 = .int .i64 r86 := envp he165 rfl h157
            have h174 : eget e164 63 = .bool (!r163) := envp he165 rfl rfl
            clear h150 h151 h152 h153 h154 h155 h156 h157 h158
            refine Ev.kseqN ?_
            rcases ite_some h with ⟨hb175, h⟩ | ⟨hb175, h⟩
            · refine Ev.condF h174 (congrArg Bool.not hb175) ?_
              refine Ev.ex ?_
              refine Ev.kseqN ?_
              refine Ev.seq ?_
              refine Ev.reg (fun _ => rfl) ?_
              refine Ev.nxk (mvO rfl) ?_
              refine Ev.rend ?_
              intro e176 he177
              have h178 : eget e176 0 = .sl none (a1.map Deal.c) := envp he177 rfl h166
              have h179 : eget e176 1 = .sl none (a2.map Deal.c) := envp he177 rfl h167
              have h180 : eget e176 6 = .sl (some 85) (r48.map Deal.c) := envp he177 rfl h168
              have h181 : eget e176 7 = .int .i64 r49 := envp he177 rfl h169
              have h182 : eget e176 8 = .lsl ([] : Mem).length r57.length 0 r57.length := envp he177 rfl h170
              have h183 : eget e176 9 = .lsl M59.length r70.length 0 r70.length := envp he177 rfl h171
              have h184 : eget e176 10 = .nils := envp he177 rfl h172
              have h185 : eget e176 11 = .int .i64 r86 := envp he177 rfl h173
              have h186 : eget e176 12 = .int .i64 1 := envp he177 rfl rfl
              clear h166 h167 h168 h169 h170 h171 h172 h173 h174
              refine Ev.kseqN ?_
              refine Ev.seq ?_
              refine Ev.reg (fun _ => rfl) ?_
              refine Ev.nxk (mvO h182) ?_
              refine Ev.nxk (mvO h186) ?_
              obtain ⟨⟨r188, r189⟩, hx187, h⟩ := bind_some h
              refine Ev.nxw (Ev.callW rfl (cns rfl (cns rfl rfl)) (laws_markDealS_l_ok r57 1 (([] : Mem).length) M127 o138 _ hx187)) ?_
              intro v192 M190 hq191
              obtain ⟨hv192, o193, fr194, hl195⟩ := hq191
              have hv192 : v192 = .int .i64 r188 := hv192
              subst hv192
              have o196 : M190[([] : Mem).length]? = some (.live ⟨.grow, 85, 6, r189.map Deal.c⟩) := o193
              have hl195 : r189.length = r57.length := hl195
              have o197 : M190[M59.length]? = some (.live ⟨.grow, 85, 6, r70.map Deal.c⟩) := fr194 _ _ (niC (Ne.symm ne75) niN) o139
              refine Ev.nxk (mvO rfl) ?_
              refine Ev.rend ?_
              intro e198 he199
              have h200 : eget e198 0 = .sl none (a1.map Deal.c) := envp he199 rfl h178
              have h201 : eget e198 1 = .sl none (a2.map Deal.c) := envp he199 rfl h179
              have h202 : eget e198 6 = .sl (some 85) (r48.map Deal.c) := envp he199 rfl h180
              have h203 : eget e198 7 = .int .i64 r49 := envp he199 rfl h181
              have h204 : eget e198 9 = .lsl M59.length r70.length 0 r70.length := envp he199 rfl h183
              have h205 : eget e198 10 = .nils := envp he199 rfl h184
              have h206 : eget e198 11 = .int .i64 r86 := envp he199 rfl h185
              have h207 : eget e198 12 = .int .i64 r188 := envp he199 rfl rfl
              clear h178 h179 h180 h181 h182 h183 h184 h185
              refine Ev.kseqN ?_
              refine Ev.seq ?_
              refine Ev.reg (fun _ => rfl) ?_
              refine Ev.nxk (mvO h204) ?_
              refine Ev.nxk (mvO h207) ?_
              obtain ⟨⟨r209, r210⟩, hx208, h⟩ := bind_some h
              refine Ev.nxw (Ev.callW rfl (cns rfl (cns rfl rfl)) (laws_markDealS_l_ok r70 r188 M59.length M190 o197 _ hx208)) ?_
              intro v213 M211 hq212
              obtain ⟨hv213, o214, fr215, hl216⟩ := hq212
              have hv213 : v213 = .int .i64 r209 := hv213
              subst hv213
              have o217 : M211[M59.length]? = some (.live ⟨.grow, 85, 6, r210.map Deal.c⟩) := o214
              have hl216 : r210.length = r70.length := hl216
              refine Ev.nxk (mvO rfl) ?_
              refine Ev.rend ?_
              intro e218 he219
              have h220 : eget e218 0 = .sl none (a1.map Deal.c) := envp he219 rfl h200
              have h221 : eget e218 1 = .sl none (a2.map Deal.c) := envp he219 rfl h201
              have h222 : eget e218 6 = .sl (some 85) (r48.map Deal.c) := envp he219 rfl h202
              have h223 : eget e218 7 = .int .i64 r49 := envp he219 rfl h203
              have h224 : eget e218 10 = .nils := envp he219 rfl h205
              have h225 : eget e218 11 = .int .i64 r86 := envp he219 rfl h206
              have h226 : eget e218 12 = .int .i64 r209 := envp he219 rfl rfl
              clear h200 h201 h202 h203 h204 h205 h206
              refine Ev.kseqN ?_
              refine Ev.seq ?_
              refine Ev.seq ?_
              obtain ⟨r474, hr475, h⟩ := bind_some h
              refine Ev.cut (Q1 := laws_FnExactPutTogether_c2_Q a1 a2 r48 r49 r474) (by
                  have h := hr475
                  refine Ev.reg (fun _ => rfl) ?_
                  refine Ev.nxk (mvO h226) ?_
                  refine Ev.nxk (bLss rfl rfl) ?_
                  refine Ev.nxk (mvO rfl) ?_
                  rcases ite_some h with ⟨hb227, h⟩ | ⟨hb227, h⟩
                  · refine Ev.nxk (gsF rfl hb227) ?_
                    refine Ev.nxk (gsF rfl hb227) ?_
                    refine Ev.nxck (Ev.gsF rfl hb227) ?_
                    refine Ev.nxk (gsF rfl hb227) ?_
                    refine Ev.nxk (pkT rfl hb227 rfl) ?_
                    refine Ev.nxk (mvO rfl) ?_
                    refine Ev.nxk (gsF rfl rfl) ?_
                    refine Ev.nxk (gsF rfl rfl) ?_
                    refine Ev.nxk (gsF rfl rfl) ?_
                    refine Ev.nxk (pkT rfl rfl rfl) ?_
                    refine Ev.rend ?_
                    intro e228 he229
                    have h230 : eget e228 0 = .sl none (a1.map Deal.c) := envp he229 rfl h220
                    have h231 : eget e228 1 = .sl none (a2.map Deal.c) := envp he229 rfl h221
                    have h232 : eget e228 6 = .sl (some 85) (r48.map Deal.c) := envp he229 rfl h222
                    have h233 : eget e228 7 = .int .i64 r49 := envp he229 rfl h223
                    have h234 : eget e228 10 = .nils := envp he229 rfl h224
                    have h235 : eget e228 82 = .bool true := envp he229 rfl rfl
                    clear h220 h221 h222 h223 h224 h225 h226
                    cases h
                    exact Ev.kid (show laws_FnExactPutTogether_c2_Q a1 a2 r48 r49 _ _ from (And.intro rfl (And.intro h230 (And.intro h231 (And.intro h232 (And.intro h233 (And.intro h234 h235)))))))
                  · refine Ev.nxk (guF rfl hb227 (mvO h224)) ?_
                    refine Ev.nxk (guF rfl hb227 (mvO h222)) ?_
                    obtain ⟨r237, hx236, h⟩ := bind_some h
                    refine Ev.nxck (Ev.guF rfl hb227 (Ev.call (v := .bool r237) rfl (cns rfl (cns rfl rfl)) rfl (laws_eqDealS_ok ([] : List Deal) r48 _ hx236) (fun h => nomatch (show false = true from h)))) ?_
                    refine Ev.nxk (guF rfl hb227 (uNot rfl)) ?_
                    refine Ev.nxk (pkF rfl hb227 rfl) ?_
                    refine Ev.nxk (mvO rfl) ?_
                    rcases ite_some h with ⟨hb238, h⟩ | ⟨hb238, h⟩
                    · refine Ev.nxk (guF rfl (congrArg Bool.not hb238) (mvO h225)) ?_
                      refine Ev.nxk (guF rfl (congrArg Bool.not hb238) (mvO h223)) ?_
                      refine Ev.nxk (guF rfl (congrArg Bool.not hb238) (bNeq rfl rfl)) ?_
                      refine Ev.nxk (pkF rfl (congrArg Bool.not hb238) rfl) ?_
                      refine Ev.rend ?_
                      intro e239 he240
                      have h241 : eget e239 0 = .sl none (a1.map Deal.c) := envp he240 rfl h220
                      have h242 : eget e239 1 = .sl none (a2.map Deal.c) := envp he240 rfl h221
                      have h243 : eget e239 6 = .sl (some 85) (r48.map Deal.c) := envp he240 rfl h222
                      have h244 : eget e239 7 = .int .i64 r49 := envp he240 rfl h223
                      have h245 : eget e239 10 = .nils := envp he240 rfl h224
                      have h246 : eget e239 82 = .bool (r86 != r49) := envp he240 rfl rfl
                      clear h220 h221 h222 h223 h224 h225 h226
                      cases h
                      exact Ev.kid (show laws_FnExactPutTogether_c2_Q a1 a2 r48 r49 _ _ from (And.intro rfl (And.intro h241 (And.intro h242 (And.intro h243 (And.intro h244 (And.intro h245 h246)))))))
                    · refine Ev.nxk (gsF rfl (congrArg Bool.not hb238)) ?_
                      refine Ev.nxk (gsF rfl (congrArg Bool.not hb238)) ?_
                      refine Ev.nxk (gsF rfl (congrArg Bool.not hb238)) ?_
                      refine Ev.nxk (pkT rfl (congrArg Bool.not hb238) rfl) ?_
                      refine Ev.rend ?_
                      intro e247 he248
                      have h249 : eget e247 0 = .sl none (a1.map Deal.c) := envp he248 rfl h220
                      have h250 : eget e247 1 = .sl none (a2.map Deal.c) := envp he248 rfl h221
                      have h251 : eget e247 6 = .sl (some 85) (r48.map Deal.c) := envp he248 rfl h222
                      have h252 : eget e247 7 = .int .i64 r49 := envp he248 rfl h223
                      have h253 : eget e247 10 = .nils := envp he248 rfl h224
                      have h254 : eget e247 82 = .bool true := envp he248 rfl rfl
                      clear h220 h221 h222 h223 h224 h225 h226
                      cases h
                      exact Ev.kid (show laws_FnExactPutTogether_c2_Q a1 a2 r48 r49 _ _ from (And.intro rfl (And.intro h249 (And.intro h250 (And.intro h251 (And.intro h252 (And.intro h253 h254)))))))) ?_
              revert h hr475
              revert r474
              intro y257 hr475 h
              intro x e255 M256 hq473
              obtain ⟨rfl, h258, h259, h260, h261, h262, h263⟩ := hq473
              refine Ev.kseqN ?_
              rcases ite_some h with ⟨hb264, h⟩ | ⟨hb264, h⟩
              · refine Ev.condT h263 hb264 ?_
                refine Ev.seq ?_
                refine Ev.reg (fun _ => rfl) ?_
                refine Ev.nxk (mvO rfl) ?_
                refine Ev.rend ?_
                intro e265 he266
                have h267 : eget e265 4 = .bool false := envp he266 rfl rfl
                clear h258 h259 h260 h261 h262 h263
                refine Ev.kseqN ?_
                refine Ev.ex ?_
                refine Ev.kseqR ?_
                cases h
                exact Ev.kendR (resT h267 res0) rfl
              · refine Ev.condF h263 hb264 ?_
                refine Ev.ex ?_
                refine Ev.kseqN ?_
                refine Ev.seq ?_
                refine Ev.reg (fun _ => rfl) ?_
                refine Ev.nxk (mvO rfl) ?_
                refine Ev.rend ?_
                intro e268 he269
                have h270 : eget e268 0 = .sl none (a1.map Deal.c) := envp he269 rfl h258
                have h271 : eget e268 1 = .sl none (a2.map Deal.c) := envp he269 rfl h259
                have h272 : eget e268 6 = .sl (some 85) (r48.map Deal.c) := envp he269 rfl h260
                have h273 : eget e268 7 = .int .i64 r49 := envp he269 rfl h261
                have h274 : eget e268 10 = .nils := envp he269 rfl h262
                have h275 : eget e268 13 = .int .i64 1 := envp he269 rfl rfl
                clear h258 h259 h260 h261 h262 h263
                refine Ev.kseqN ?_
                refine Ev.seq ?_
                refine Ev.reg (fun _ => rfl) ?_
                refine Ev.nxk (mvO h274) ?_
                refine Ev.nxk (mvO h275) ?_
                obtain ⟨r277, hx276, h⟩ := bind_some h
                refine Ev.nxw (Ev.callW rfl (cns rfl (cns rfl rfl)) (laws_markDealS_n_ok 1 M256 _ hx276)) ?_
                intro v280 M278 hq279
                obtain ⟨hv280, fr281⟩ := hq279
                have hv280 : v280 = .int .i64 r277 := hv280
                subst hv280
                refine Ev.nxk (mvO rfl) ?_
                refine Ev.rend ?_
                intro e282 he283
                have h284 : eget e282 0 = .sl none (a1.map Deal.c) := envp he283 rfl h270
                have h285 : eget e282 1 = .sl none (a2.map Deal.c) := envp he283 rfl h271
                have h286 : eget e282 6 = .sl (some 85) (r48.map Deal.c) := envp he283 rfl h272
                have h287 : eget e282 7 = .int .i64 r49 := envp he283 rfl h273
                have h288 : eget e282 10 = .nils := envp he283 rfl h274
                have h289 : eget e282 13 = .int .i64 r277 := envp he283 rfl rfl
                clear h270 h271 h272 h273 h274
                refine Ev.kseqN ?_
                refine Ev.seq ?_
                refine Ev.reg (fun _ => rfl) ?_
                refine Ev.nxk (mvO rfl) ?_
                refine Ev.rend ?_
                intro e290 he291
                have h292 : eget e290 0 = .sl none (a1.map Deal.c) := envp he291 rfl h284
                have h293 : eget e290 1 = .sl none (a2.map Deal.c) := envp he291 rfl h285
                have h294 : eget e290 6 = .sl (some 85) (r48.map Deal.c) := envp he291 rfl h286
                have h295 : eget e290 7 = .int .i64 r49 := envp he291 rfl h287
                have h296 : eget e290 10 = .nils := envp he291 rfl h288
                have h297 : eget e290 13 = .int .i64 r277 := envp he291 rfl h289
                have h298 : eget e290 14 = .int .i64 1 := envp he291 rfl rfl
                clear h284 h285 h286 h287 h288 h289
                refine Ev.kseqN ?_
                refine Ev.seq ?_
                refine Ev.reg (fun _ => rfl) ?_
                refine Ev.nxk (mvO h296) ?_
                refine Ev.nxk (mvO h298) ?_
                obtain ⟨r300, hx299, h⟩ := bind_some h
                refine Ev.nxck (Ev.call (v := .int .i64 r300) rfl (cns rfl (cns rfl rfl)) rfl (laws_heldDealS_ok ([] : List Deal) 1 _ hx299) (fun h => nomatch (show false = true from h))) ?_
                refine Ev.nxk (mvO rfl) ?_
                refine Ev.rend ?_
                intro e301 he302
                have h303 : eget e301 0 = .sl none (a1.map Deal.c) := envp he302 rfl h292
                have h304 : eget e301 1 = .sl none (a2.map Deal.c) := envp he302 rfl h293
                have h305 : eget e301 6 = .sl (some 85) (r48.map Deal.c) := envp he302 rfl h294
                have h306 : eget e301 7 = .int .i64 r49 := envp he302 rfl h295
                have h307 : eget e301 10 = .nils := envp he302 rfl h296
                have h308 : eget e301 13 = .int .i64 r277 := envp he302 rfl h297
                have h309 : eget e301 14 = .int .i64 r300 := envp he302 rfl rfl
                clear h292 h293 h294 h295 h296 h297
                refine Ev.kseqN ?_
                refine Ev.seq ?_
                refine Ev.seq ?_
                refine Ev.reg (fun _ => rfl) ?_
                refine Ev.nxk (mvO h309) ?_
                refine Ev.nxk (bLss rfl rfl) ?_
                refine Ev.rend ?_
                intro e310 he311
                have h312 : eget e310 0 = .sl none (a1.map Deal.c) := envp he311 rfl h303
                have h313 : eget e310 1 = .sl none (a2.map Deal.c) := envp he311 rfl h304
                have h314 : eget e310 6 = .sl (some 85) (r48.map Deal.c) := envp he311 rfl h305
                have h315 : eget e310 7 = .int .i64 r49 := envp he311 rfl h306
                have h316 : eget e310 10 = .nils := envp he311 rfl h307
                have h317 : eget e310 13 = .int .i64 r277 := envp he311 rfl h308
                have h318 : eget e310 14 = .int .i64 r300 := envp he311 rfl h309
                have h319 : eget e310 90 = .bool (decide (r300 < 0)) := envp he311 rfl rfl
                clear h303 h304 h305 h306 h307 h308 h309
                refine Ev.kseqN ?_
                rcases ite_some h with ⟨hb320, h⟩ | ⟨hb320, h⟩
                · refine Ev.condT h319 hb320 ?_
                  refine Ev.seq ?_
                  refine Ev.reg (fun _ => rfl) ?_
                  refine Ev.nxk (mvO rfl) ?_
                  refine Ev.rend ?_
                  intro e321 he322
                  have h323 : eget e321 4 = .bool false := envp he322 rfl rfl
                  clear h312 h313 h314 h315 h316 h317 h318 h319
                  refine Ev.kseqN ?_
                  refine Ev.ex ?_
                  refine Ev.kseqR ?_
                  cases h
                  exact Ev.kendR (resT h323 res0) rfl
                · refine Ev.condF h319 hb320 ?_
                  refine Ev.ex ?_
                  refine Ev.kseqN ?_
                  refine Ev.seq ?_
                  refine Ev.seq ?_
                  refine Ev.reg (fun _ => rfl) ?_
                  refine Ev.nxk (mvO h318) ?_
                  refine Ev.nxk (mvO h317) ?_
                  refine Ev.nxk (bNeq rfl rfl) ?_
                  refine Ev.rend ?_
                  intro e324 he325
                  have h326 : eget e324 0 = .sl none (a1.map Deal.c) := envp he325 rfl h312
                  have h327 : eget e324 1 = .sl none (a2.map Deal.c) := envp he325 rfl h313
                  have h328 : eget e324 6 = .sl (some 85) (r48.map Deal.c) := envp he325 rfl h314
                  have h329 : eget e324 7 = .int .i64 r49 := envp he325 rfl h315
                  have h330 : eget e324 10 = .nils := envp he325 rfl h316
                  have h331 : eget e324 13 = .int .i64 r277 := envp he325 rfl h317
                  have h332 : eget e324 93 = .bool (r300 != r277) := envp he325 rfl rfl
                  clear h312 h313 h314 h315 h316 h317 h318 h319
                  refine Ev.kseqN ?_
                  rcases ite_some h with ⟨hb333, h⟩ | ⟨hb333, h⟩
                  · refine Ev.condT h332 hb333 ?_
                    refine Ev.seq ?_
                    refine Ev.reg (fun _ => rfl) ?_
                    refine Ev.nxk (mvO rfl) ?_
                    refine Ev.rend ?_
                    intro e334 he335
                    have h336 : eget e334 4 = .bool false := envp he335 rfl rfl
                    clear h326 h327 h328 h329 h330 h331 h332
                    refine Ev.kseqN ?_
                    refine Ev.ex ?_
                    refine Ev.kseqR ?_
                    cases h
                    exact Ev.kendR (resT h336 res0) rfl
                  · refine Ev.condF h332 hb333 ?_
                    refine Ev.ex ?_
                    refine Ev.kseqN ?_
                    refine Ev.seq ?_
                    refine Ev.reg (fun _ => rfl) ?_
                    refine Ev.nxk (mvO h326) ?_
                    obtain ⟨r338, hx337, h⟩ := bind_some h
                    refine Ev.nxck (Ev.call (v := .sl (some 85) (r338.map Deal.c)) rfl (cns rfl rfl) rfl (laws_toDealS_ok a1 _ hx337) (fun h => nomatch (show false = true from h))) ?_
                    refine Ev.nxk (mvO h327) ?_
                    obtain ⟨r340, hx339, h⟩ := bind_some h
                    refine Ev.nxck (Ev.call (v := .sl (some 85) (r340.map Deal.c)) rfl (cns rfl rfl) rfl (laws_toDealS_ok a2 _ hx339) (fun h => nomatch (show false = true from h))) ?_
                    obtain ⟨q472, hx341, h⟩ := bind_some h
                    rcases q472 with r342 | r407
                    · refine Ev.nxck (Ev.call (v := .tup [.nils, .int .i64 r342]) rfl (cns rfl (cns rfl rfl)) rfl (impl_PutTogether_ok r338 r340 _ hx341) (fun h => nomatch (show false = true from h))) ?_
                      refine Ev.nxk (mvO rfl) ?_
                      refine Ev.nxk (exT rfl rfl) ?_
                      refine Ev.nxk (exT rfl rfl) ?_
                      refine Ev.nxk (mvO rfl) ?_
                      refine Ev.nxk (mvO rfl) ?_
                      refine Ev.rend ?_
                      intro e343 he344
                      have h345 : eget e343 6 = .sl (some 85) (r48.map Deal.c) := envp he344 rfl h328
                      have h346 : eget e343 7 = .int .i64 r49 := envp he344 rfl h329
                      have h347 : eget e343 10 = .nils := envp he344 rfl h330
                      have h348 : eget e343 13 = .int .i64 r277 := envp he344 rfl h331
                      have h349 : eget e343 15 = .nils := envp he344 rfl rfl
                      have h350 : eget e343 16 = .int .i64 r342 := envp he344 rfl rfl
                      clear h326 h327 h328 h329 h330 h331 h332
                      refine Ev.kseqN ?_
                      refine Ev.seq ?_
                      refine Ev.seq ?_
                      obtain ⟨r405, hr406, h⟩ := bind_some h
                      refine Ev.cut (Q1 := laws_FnExactPutTogether_c3_Q r277 r405) (by
                          have h := hr406
                          refine Ev.reg (fun _ => rfl) ?_
                          refine Ev.nxk (mvO h349) ?_
                          refine Ev.nxk (mvO h345) ?_
                          obtain ⟨r352, hx351, h⟩ := bind_some h
                          refine Ev.nxck (Ev.call (v := .bool r352) rfl (cns rfl (cns rfl rfl)) rfl (laws_eqDealS_ok ([] : List Deal) r48 _ hx351) (fun h => nomatch (show false = true from h))) ?_
                          refine Ev.nxk (uNot rfl) ?_
                          refine Ev.nxk (mvO rfl) ?_
                          rcases ite_some h with ⟨hb353, h⟩ | ⟨hb353, h⟩
                          · refine Ev.nxk (guF rfl (congrArg Bool.not hb353) (mvO h350)) ?_
                            refine Ev.nxk (guF rfl (congrArg Bool.not hb353) (mvO h346)) ?_
                            refine Ev.nxk (guF rfl (congrArg Bool.not hb353) (bNeq rfl rfl)) ?_
                            refine Ev.nxk (pkF rfl (congrArg Bool.not hb353) rfl) ?_
                            refine Ev.rend ?_
                            intro e354 he355
                            have h356 : eget e354 10 = .nils := envp he355 rfl h347
                            have h357 : eget e354 13 = .int .i64 r277 := envp he355 rfl h348
                            have h358 : eget e354 110 = .bool (r342 != r49) := envp he355 rfl rfl
                            clear h345 h346 h347 h348 h349 h350
                            cases h
                            exact Ev.kid (show laws_FnExactPutTogether_c3_Q r277 _ _ from (And.intro rfl (And.intro h356 (And.intro h357 h358))))
                          · refine Ev.nxk (gsF rfl (congrArg Bool.not hb353)) ?_
                            refine Ev.nxk (gsF rfl (congrArg Bool.not hb353)) ?_
                            refine Ev.nxk (gsF rfl (congrArg Bool.not hb353)) ?_
                            refine Ev.nxk (pkT rfl (congrArg Bool.not hb353) rfl) ?_
                            refine Ev.rend ?_
                            intro e359 he360
                            have h361 : eget e359 10 = .nils := envp he360 rfl h347
                            have h362 : eget e359 13 = .int .i64 r277 := envp he360 rfl h348
                            have h363 : eget e359 110 = .bool true := envp he360 rfl rfl
                            clear h345 h346 h347 h348 h349 h350
                            cases h
                            exact Ev.kid (show laws_FnExactPutTogether_c3_Q r277 _ _ from (And.intro rfl (And.intro h361 (And.intro h362 h363))))) ?_
                      revert h hr406
                      revert r405
                      intro y366 hr406 h
                      intro x e364 M365 hq404
                      obtain ⟨rfl, h367, h368, h369⟩ := hq404
                      refine Ev.kseqN ?_
                      rcases ite_some h with ⟨hb370, h⟩ | ⟨hb370, h⟩
                      · refine Ev.condT h369 hb370 ?_
                        refine Ev.seq ?_
                        refine Ev.reg (fun _ => rfl) ?_
                        refine Ev.nxk (mvO rfl) ?_
                        refine Ev.rend ?_
                        intro e371 he372
                        have h373 : eget e371 4 = .bool false := envp he372 rfl rfl
                        clear h367 h368 h369
                        refine Ev.kseqN ?_
                        refine Ev.ex ?_
                        refine Ev.kseqR ?_
                        cases h
                        exact Ev.kendR (resT h373 res0) rfl
                      · refine Ev.condF h369 hb370 ?_
                        refine Ev.ex ?_
                        refine Ev.kseqN ?_
                        refine Ev.seq ?_
                        refine Ev.reg (fun _ => rfl) ?_
                        refine Ev.nxk (mvO rfl) ?_
                        refine Ev.rend ?_
                        intro e374 he375
                        have h376 : eget e374 10 = .nils := envp he375 rfl h367
                        have h377 : eget e374 13 = .int .i64 r277 := envp he375 rfl h368
                        have h378 : eget e374 14 = .int .i64 1 := envp he375 rfl rfl
                        clear h367 h368 h369
                        refine Ev.kseqN ?_
                        refine Ev.seq ?_
                        refine Ev.reg (fun _ => rfl) ?_
                        refine Ev.nxk (mvO h376) ?_
                        refine Ev.nxk (mvO h378) ?_
                        obtain ⟨r380, hx379, h⟩ := bind_some h
                        refine Ev.nxck (Ev.call (v := .int .i64 r380) rfl (cns rfl (cns rfl rfl)) rfl (laws_heldDealS_ok ([] : List Deal) 1 _ hx379) (fun h => nomatch (show false = true from h))) ?_
                        refine Ev.nxk (mvO rfl) ?_
                        refine Ev.rend ?_
                        intro e381 he382
                        have h383 : eget e381 13 = .int .i64 r277 := envp he382 rfl h377
                        have h384 : eget e381 14 = .int .i64 r380 := envp he382 rfl rfl
                        clear h376 h377
                        refine Ev.kseqN ?_
                        refine Ev.seq ?_
                        refine Ev.seq ?_
                        refine Ev.reg (fun _ => rfl) ?_
                        refine Ev.nxk (mvO h384) ?_
                        refine Ev.nxk (bLss rfl rfl) ?_
                        refine Ev.rend ?_
                        intro e385 he386
                        have h387 : eget e385 13 = .int .i64 r277 := envp he386 rfl h383
                        have h388 : eget e385 14 = .int .i64 r380 := envp he386 rfl h384
                        have h389 : eget e385 115 = .bool (decide (r380 < 0)) := envp he386 rfl rfl
                        clear h383 h384
                        refine Ev.kseqN ?_
                        rcases ite_some h with ⟨hb390, h⟩ | ⟨hb390, h⟩
                        · refine Ev.condT h389 hb390 ?_
                          refine Ev.seq ?_
                          refine Ev.reg (fun _ => rfl) ?_
                          refine Ev.nxk (mvO rfl) ?_
                          refine Ev.rend ?_
                          intro e391 he392
                          have h393 : eget e391 4 = .bool false := envp he392 rfl rfl
                          clear h387 h388 h389
                          refine Ev.kseqN ?_
                          refine Ev.ex ?_
                          refine Ev.kseqR ?_
                          cases h
                          exact Ev.kendR (resT h393 res0) rfl
                        · refine Ev.condF h389 hb390 ?_
                          refine Ev.ex ?_
                          refine Ev.kseqN ?_
                          refine Ev.seq ?_
                          refine Ev.seq ?_
                          refine Ev.reg (fun _ => rfl) ?_
                          refine Ev.nxk (mvO h388) ?_
                          refine Ev.nxk (mvO h387) ?_
                          refine Ev.nxk (bNeq rfl rfl) ?_
                          refine Ev.rend ?_
                          intro e394 he395
                          have h396 : eget e394 118 = .bool (r380 != r277) := envp he395 rfl rfl
                          clear h387 h388 h389
                          refine Ev.kseqN ?_
                          rcases ite_some h with ⟨hb397, h⟩ | ⟨hb397, h⟩
                          · refine Ev.condT h396 hb397 ?_
                            refine Ev.seq ?_
                            refine Ev.reg (fun _ => rfl) ?_
                            refine Ev.nxk (mvO rfl) ?_
                            refine Ev.rend ?_
                            intro e398 he399
                            have h400 : eget e398 4 = .bool false := envp he399 rfl rfl
                            clear h396
                            refine Ev.kseqN ?_
                            refine Ev.ex ?_
                            refine Ev.kseqR ?_
                            cases h
                            exact Ev.kendR (resT h400 res0) rfl
                          · refine Ev.condF h396 hb397 ?_
                            refine Ev.ex ?_
                            refine Ev.kseqN ?_
                            refine Ev.seq ?_
                            refine Ev.reg (fun _ => rfl) ?_
                            refine Ev.nxk (mvO rfl) ?_
                            refine Ev.rend ?_
                            intro e401 he402
                            have h403 : eget e401 4 = .bool true := envp he402 rfl rfl
                            clear h396
                            refine Ev.kseqN ?_
                            refine Ev.ex ?_
                            cases h
                            exact Ev.kendR (resT h403 res0) rfl
                    · refine Ev.nxck (Ev.call (v := .tup [.sl (some 85) (r407.map Deal.c), .int .i64 0]) rfl (cns rfl (cns rfl rfl)) rfl (impl_PutTogether_ok r338 r340 _ hx341) (fun h => nomatch (show false = true from h))) ?_
                      refine Ev.nxk (mvO rfl) ?_
                      refine Ev.nxk (exT rfl rfl) ?_
                      refine Ev.nxk (exT rfl rfl) ?_
                      refine Ev.nxk (mvO rfl) ?_
                      refine Ev.nxk (mvO rfl) ?_
                      refine Ev.rend ?_
                      intro e408 he409
                      have h410 : eget e408 6 = .sl (some 85) (r48.map Deal.c) := envp he409 rfl h328
                      have h411 : eget e408 7 = .int .i64 r49 := envp he409 rfl h329
                      have h412 : eget e408 10 = .nils := envp he409 rfl h330
                      have h413 : eget e408 13 = .int .i64 r277 := envp he409 rfl h331
                      have h414 : eget e408 15 = .sl (some 85) (r407.map Deal.c) := envp he409 rfl rfl
                      have h415 : eget e408 16 = .int .i64 0 := envp he409 rfl rfl
                      clear h326 h327 h328 h329 h330 h331 h332
                      refine Ev.kseqN ?_
                      refine Ev.seq ?_
                      refine Ev.seq ?_
                      obtain ⟨r470, hr471, h⟩ := bind_some h
                      refine Ev.cut (Q1 := laws_FnExactPutTogether_c4_Q r277 r470) (by
                          have h := hr471
                          refine Ev.reg (fun _ => rfl) ?_
                          refine Ev.nxk (mvO h414) ?_
                          refine Ev.nxk (mvO h410) ?_
                          obtain ⟨r417, hx416, h⟩ := bind_some h
                          refine Ev.nxck (Ev.call (v := .bool r417) rfl (cns rfl (cns rfl rfl)) rfl (laws_eqDealS_ok r407 r48 _ hx416) (fun h => nomatch (show false = true from h))) ?_
                          refine Ev.nxk (uNot rfl) ?_
                          refine Ev.nxk (mvO rfl) ?_
                          rcases ite_some h with ⟨hb418, h⟩ | ⟨hb418, h⟩
                          · refine Ev.nxk (guF rfl (congrArg Bool.not hb418) (mvO h415)) ?_
                            refine Ev.nxk (guF rfl (congrArg Bool.not hb418) (mvO h411)) ?_
                            refine Ev.nxk (guF rfl (congrArg Bool.not hb418) (bNeq rfl rfl)) ?_
                            refine Ev.nxk (pkF rfl (congrArg Bool.not hb418) rfl) ?_
                            refine Ev.rend ?_
                            intro e419 he420
                            have h421 : eget e419 10 = .nils := envp he420 rfl h412
                            have h422 : eget e419 13 = .int .i64 r277 := envp he420 rfl h413
                            have h423 : eget e419 110 = .bool (0 != r49) := envp he420 rfl rfl
                            clear h410 h411 h412 h413 h414 h415
                            cases h
                            exact Ev.kid (show laws_FnExactPutTogether_c4_Q r277 _ _ from (And.intro rfl (And.intro h421 (And.intro h422 h423))))
                          · refine Ev.nxk (gsF rfl (congrArg Bool.not hb418)) ?_
                            refine Ev.nxk (gsF rfl (congrArg Bool.not hb418)) ?_
                            refine Ev.nxk (gsF rfl (congrArg Bool.not hb418)) ?_
                            refine Ev.nxk (pkT rfl (congrArg Bool.not hb418) rfl) ?_
                            refine Ev.rend ?_
                            intro e424 he425
                            have h426 : eget e424 10 = .nils := envp he425 rfl h412
                            have h427 : eget e424 13 = .int .i64 r277 := envp he425 rfl h413
                            have h428 : eget e424 110 = .bool true := envp he425 rfl rfl
                            clear h410 h411 h412 h413 h414 h415
                            cases h
                            exact Ev.kid (show laws_FnExactPutTogether_c4_Q r277 _ _ from (And.intro rfl (And.intro h426 (And.intro h427 h428))))) ?_
                      revert h hr471
                      revert r470
                      intro y431 hr471 h
                      intro x e429 M430 hq469
                      obtain ⟨rfl, h432, h433, h434⟩ := hq469
                      refine Ev.kseqN ?_
                      rcases ite_some h with ⟨hb435, h⟩ | ⟨hb435, h⟩
                      · refine Ev.condT h434 hb435 ?_
                        refine Ev.seq ?_
                        refine Ev.reg (fun _ => rfl) ?_
                        refine Ev.nxk (mvO rfl) ?_
                        refine Ev.rend ?_
                        intro e436 he437
                        have h438 : eget e436 4 = .bool false := envp he437 rfl rfl
                        clear h432 h433 h434
                        refine Ev.kseqN ?_
                        refine Ev.ex ?_
                        refine Ev.kseqR ?_
                        cases h
                        exact Ev.kendR (resT h438 res0) rfl
                      · refine Ev.condF h434 hb435 ?_
                        refine Ev.ex ?_
                        refine Ev.kseqN ?_
                        refine Ev.seq ?_
                        refine Ev.reg (fun _ => rfl) ?_
                        refine Ev.nxk (mvO rfl) ?_
                        refine Ev.rend ?_
                        intro e439 he440
                        have h441 : eget e439 10 = .nils := envp he440 rfl h432
                        have h442 : eget e439 13 = .int .i64 r277 := envp he440 rfl h433
                        have h443 : eget e439 14 = .int .i64 1 := envp he440 rfl rfl
                        clear h432 h433 h434
                        refine Ev.kseqN ?_
                        refine Ev.seq ?_
                        refine Ev.reg (fun _ => rfl) ?_
                        refine Ev.nxk (mvO h441) ?_
                        refine Ev.nxk (mvO h443) ?_
                        obtain ⟨r445, hx444, h⟩ := bind_some h
                        refine Ev.nxck (Ev.call (v := .int .i64 r445) rfl (cns rfl (cns rfl rfl)) rfl (laws_heldDealS_ok ([] : List Deal) 1 _ hx444) (fun h => nomatch (show false = true from h))) ?_
                        refine Ev.nxk (mvO rfl) ?_
                        refine Ev.rend ?_
                        intro e446 he447
                        have h448 : eget e446 13 = .int .i64 r277 := envp he447 rfl h442
                        have h449 : eget e446 14 = .int .i64 r445 := envp he447 rfl rfl
                        clear h441 h442
                        refine Ev.kseqN ?_
                        refine Ev.seq ?_
                        refine Ev.seq ?_
                        refine Ev.reg (fun _ => rfl) ?_
                        refine Ev.nxk (mvO h449) ?_
                        refine Ev.nxk (bLss rfl rfl) ?_
                        refine Ev.rend ?_
                        intro e450 he451
                        have h452 : eget e450 13 = .int .i64 r277 := envp he451 rfl h448
                        have h453 : eget e450 14 = .int .i64 r445 := envp he451 rfl h449
                        have h454 : eget e450 115 = .bool (decide (r445 < 0)) := envp he451 rfl rfl
                        clear h448 h449
                        refine Ev.kseqN ?_
                        rcases ite_some h with ⟨hb455, h⟩ | ⟨hb455, h⟩
                        · refine Ev.condT h454 hb455 ?_
                          refine Ev.seq ?_
                          refine Ev.reg (fun _ => rfl) ?_
                          refine Ev.nxk (mvO rfl) ?_
                          refine Ev.rend ?_
                          intro e456 he457
                          have h458 : eget e456 4 = .bool false := envp he457 rfl rfl
                          clear h452 h453 h454
                          refine Ev.kseqN ?_
                          refine Ev.ex ?_
                          refine Ev.kseqR ?_
                          cases h
                          exact Ev.kendR (resT h458 res0) rfl
                        · refine Ev.condF h454 hb455 ?_
                          refine Ev.ex ?_
                          refine Ev.kseqN ?_
                          refine Ev.seq ?_
                          refine Ev.seq ?_
                          refine Ev.reg (fun _ => rfl) ?_
                          refine Ev.nxk (mvO h453) ?_
                          refine Ev.nxk (mvO h452) ?_
                          refine Ev.nxk (bNeq rfl rfl) ?_
                          refine Ev.rend ?_
                          intro e459 he460
                          have h461 : eget e459 118 = .bool (r445 != r277) := envp he460 rfl rfl
                          clear h452 h453 h454
                          refine Ev.kseqN ?_
                          rcases ite_some h with ⟨hb462, h⟩ | ⟨hb462, h⟩
                          · refine Ev.condT h461 hb462 ?_
                            refine Ev.seq ?_
                            refine Ev.reg (fun _ => rfl) ?_
                            refine Ev.nxk (mvO rfl) ?_
                            refine Ev.rend ?_
                            intro e463 he464
                            have h465 : eget e463 4 = .bool false := envp he464 rfl rfl
                            clear h461
                            refine Ev.kseqN ?_
                            refine Ev.ex ?_
                            refine Ev.kseqR ?_
                            cases h
                            exact Ev.kendR (resT h465 res0) rfl
                          · refine Ev.condF h461 hb462 ?_
                            refine Ev.ex ?_
                            refine Ev.kseqN ?_
                            refine Ev.seq ?_
                            refine Ev.reg (fun _ => rfl) ?_
                            refine Ev.nxk (mvO rfl) ?_
                            refine Ev.rend ?_
                            intro e466 he467
                            have h468 : eget e466 4 = .bool true := envp he467 rfl rfl
                            clear h461
                            refine Ev.kseqN ?_
                            refine Ev.ex ?_
                            cases h
                            exact Ev.kendR (resT h468 res0) rfl
            · refine Ev.condT h174 (congrArg Bool.not hb175) ?_
              refine Ev.seq ?_
              refine Ev.reg (fun _ => rfl) ?_
              refine Ev.nxk (mvO rfl) ?_
              refine Ev.rend ?_
              intro e476 he477
              have h478 : eget e476 4 = .bool false := envp he477 rfl rfl
              clear h166 h167 h168 h169 h170 h171 h172 h173 h174
              refine Ev.kseqN ?_
              refine Ev.ex ?_
              refine Ev.kseqR ?_
              cases h
              exact Ev.kendR (resT h478 res0) rfl
          · refine Ev.condT h158 (congrArg Bool.not hb159) ?_
            refine Ev.seq ?_
            refine Ev.reg (fun _ => rfl) ?_
            refine Ev.nxk (mvO rfl) ?_
            refine Ev.rend ?_
            intro e479 he480
            have h481 : eget e479 4 = .bool false := envp he480 rfl rfl
            clear h150 h151 h152 h153 h154 h155 h156 h157 h158
            refine Ev.kseqN ?_
            refine Ev.ex ?_
            refine Ev.kseqR ?_
            cases h
            exact Ev.kendR (resT h481 res0) rfl
      · refine Ev.nxcp (Ev.callT (v := .tup [.sl (some 85) (r485.map Deal.c), .int .i64 0]) rfl (cns rfl (cns rfl rfl)) (ra1 (ra1_row o74 rfl Deal.fl) (ra1 (ra1_row o76 rfl Deal.fl) ra0)) (impl_PutTogether_ok r57 r70 _ hx85) (th_gen (v' := .tup [.lsl M72.length r485.length 0 r485.length, .int .i64 0]) (l := [⟨.grow, 85, 6, r485.map Deal.c⟩]) (own_tup (oa1 (own2_row (c := Deal.c) Deal.flF) (oa1 rfl oa0))) (by simp [thaw, thaw2, thaw1, thawL, co85]) rfl rfl)) ?_
        intro M487 hM488
        have o489 := push_old hM488 o74
        have o490 := push_old hM488 o76
        have ne491 : ([] : Mem).length ≠ M72.length := by have := lt_of_get o74; omega
        have ne492 : M59.length ≠ M72.length := by have := lt_of_get o76; omega
        have o493 : M487[M72.length]? = some (.live ⟨.grow, 85, 6, r485.map Deal.c⟩) := push_at hM488 0 rfl
        refine Ev.nxk (mvO rfl) ?_
        refine Ev.nxk (exT rfl rfl) ?_
        refine Ev.nxk (exT rfl rfl) ?_
        refine Ev.nxk (mvO rfl) ?_
        refine Ev.nxk (mvO rfl) ?_
        refine Ev.rend ?_
        intro e494 he495
        have h496 : eget e494 0 = .sl none (a1.map Deal.c) := envp he495 rfl h79
        have h497 : eget e494 1 = .sl none (a2.map Deal.c) := envp he495 rfl h80
        have h498 : eget e494 6 = .sl (some 85) (r48.map Deal.c) := envp he495 rfl h81
        have h499 : eget e494 7 = .int .i64 r49 := envp he495 rfl h82
        have h500 : eget e494 8 = .lsl ([] : Mem).length r57.length 0 r57.length := envp he495 rfl h83
        have h501 : eget e494 9 = .lsl M59.length r70.length 0 r70.length := envp he495 rfl h84
        have h502 : eget e494 10 = .lsl M72.length r485.length 0 r485.length := envp he495 rfl rfl
        have h503 : eget e494 11 = .int .i64 0 := envp he495 rfl rfl
        clear h79 h80 h81 h82 h83 h84
        refine Ev.kseqN ?_
        refine Ev.seq ?_
        refine Ev.seq ?_
        obtain ⟨r896, hr897, h⟩ := bind_some h
        refine Ev.cut (Q1 := laws_FnExactPutTogether_c5_Q a1 a2 r48 r49 r57 r70 r485 (([] : Mem).length) M59.length M72.length r896) (by
            have h := hr897
            refine Ev.reg (fun _ => rfl) ?_
            refine Ev.nxk (mvO h502) ?_
            refine Ev.nxk (mvO h498) ?_
            obtain ⟨r505, hx504, h⟩ := bind_some h
            refine Ev.nxck (Ev.call (v := .bool r505) rfl (cns rfl (cns rfl rfl)) (ra1 (ra1_row o493 rfl Deal.fl) (ra1 rfl ra0)) (laws_eqDealS_ok r485 r48 _ hx504) (fun _ => rfl)) ?_
            refine Ev.nxk (uNot rfl) ?_
            refine Ev.nxk (mvO rfl) ?_
            rcases ite_some h with ⟨hb506, h⟩ | ⟨hb506, h⟩
            · refine Ev.nxk (guF rfl (congrArg Bool.not hb506) (mvO h503)) ?_
              refine Ev.nxk (guF rfl (congrArg Bool.not hb506) (mvO h499)) ?_
              refine Ev.nxk (guF rfl (congrArg Bool.not hb506) (bNeq rfl rfl)) ?_
              refine Ev.nxk (pkF rfl (congrArg Bool.not hb506) rfl) ?_
              refine Ev.rend ?_
              intro e507 he508
              have h509 : eget e507 0 = .sl none (a1.map Deal.c) := envp he508 rfl h496
              have h510 : eget e507 1 = .sl none (a2.map Deal.c) := envp he508 rfl h497
              have h511 : eget e507 6 = .sl (some 85) (r48.map Deal.c) := envp he508 rfl h498
              have h512 : eget e507 7 = .int .i64 r49 := envp he508 rfl h499
              have h513 : eget e507 8 = .lsl ([] : Mem).length r57.length 0 r57.length := envp he508 rfl h500
              have h514 : eget e507 9 = .lsl M59.length r70.length 0 r70.length := envp he508 rfl h501
              have h515 : eget e507 10 = .lsl M72.length r485.length 0 r485.length := envp he508 rfl h502
              have h516 : eget e507 11 = .int .i64 0 := envp he508 rfl h503
              have h517 : eget e507 53 = .bool (0 != r49) := envp he508 rfl rfl
              clear h496 h497 h498 h499 h500 h501 h502 h503
              cases h
              exact Ev.kid (show laws_FnExactPutTogether_c5_Q a1 a2 r48 r49 r57 r70 r485 (([] : Mem).length) M59.length M72.length _ _ from (And.intro rfl (And.intro h509 (And.intro h510 (And.intro h511 (And.intro h512 (And.intro h513 (And.intro h514 (And.intro h515 (And.intro h516 (And.intro h517 (And.intro o493 (And.intro o489 o490)))))))))))))
            · refine Ev.nxk (gsF rfl (congrArg Bool.not hb506)) ?_
              refine Ev.nxk (gsF rfl (congrArg Bool.not hb506)) ?_
              refine Ev.nxk (gsF rfl (congrArg Bool.not hb506)) ?_
              refine Ev.nxk (pkT rfl (congrArg Bool.not hb506) rfl) ?_
              refine Ev.rend ?_
              intro e518 he519
              have h520 : eget e518 0 = .sl none (a1.map Deal.c) := envp he519 rfl h496
              have h521 : eget e518 1 = .sl none (a2.map Deal.c) := envp he519 rfl h497
              have h522 : eget e518 6 = .sl (some 85) (r48.map Deal.c) := envp he519 rfl h498
              have h523 : eget e518 7 = .int .i64 r49 := envp he519 rfl h499
              have h524 : eget e518 8 = .lsl ([] : Mem).length r57.length 0 r57.length := envp he519 rfl h500
              have h525 : eget e518 9 = .lsl M59.length r70.length 0 r70.length := envp he519 rfl h501
              have h526 : eget e518 10 = .lsl M72.length r485.length 0 r485.length := envp he519 rfl h502
              have h527 : eget e518 11 = .int .i64 0 := envp he519 rfl h503
              have h528 : eget e518 53 = .bool true := envp he519 rfl rfl
              clear h496 h497 h498 h499 h500 h501 h502 h503
              cases h
              exact Ev.kid (show laws_FnExactPutTogether_c5_Q a1 a2 r48 r49 r57 r70 r485 (([] : Mem).length) M59.length M72.length _ _ from (And.intro rfl (And.intro h520 (And.intro h521 (And.intro h522 (And.intro h523 (And.intro h524 (And.intro h525 (And.intro h526 (And.intro h527 (And.intro h528 (And.intro o493 (And.intro o489 o490)))))))))))))) ?_
        revert h hr897
        revert r896
        intro y531 hr897 h
        intro x e529 M530 hq895
        obtain ⟨rfl, h532, h533, h534, h535, h536, h537, h538, h539, h540, o541, o542, o543⟩ := hq895
        refine Ev.kseqN ?_
        rcases ite_some h with ⟨hb544, h⟩ | ⟨hb544, h⟩
        · refine Ev.condT h540 hb544 ?_
          refine Ev.seq ?_
          refine Ev.reg (fun _ => rfl) ?_
          refine Ev.nxk (mvO rfl) ?_
          refine Ev.rend ?_
          intro e545 he546
          have h547 : eget e545 4 = .bool false := envp he546 rfl rfl
          clear h532 h533 h534 h535 h536 h537 h538 h539 h540
          refine Ev.kseqN ?_
          refine Ev.ex ?_
          refine Ev.kseqR ?_
          cases h
          exact Ev.kendR (resT h547 res0) rfl
        · refine Ev.condF h540 hb544 ?_
          refine Ev.ex ?_
          refine Ev.kseqN ?_
          refine Ev.seq ?_
          refine Ev.seq ?_
          refine Ev.reg (fun _ => rfl) ?_
          refine Ev.nxk (mvO h536) ?_
          refine Ev.nxk (mvO h532) ?_
          obtain ⟨r549, hx548, h⟩ := bind_some h
          refine Ev.nxck (Ev.call (v := .sl (some 85) (r549.map Deal.c)) rfl (cns rfl rfl) rfl (laws_toDealS_ok a1 _ hx548) (fun h => nomatch (show false = true from h))) ?_
          obtain ⟨r551, hx550, h⟩ := bind_some h
          refine Ev.nxck (Ev.call (v := .bool r551) rfl (cns rfl (cns rfl rfl)) (ra1 (ra1_row o542 rfl Deal.fl) (ra1 rfl ra0)) (laws_eqDealS_ok r57 r549 _ hx550) (fun _ => rfl)) ?_
          refine Ev.nxk (uNot rfl) ?_
          refine Ev.rend ?_
          intro e552 he553
          have h554 : eget e552 0 = .sl none (a1.map Deal.c) := envp he553 rfl h532
          have h555 : eget e552 1 = .sl none (a2.map Deal.c) := envp he553 rfl h533
          have h556 : eget e552 6 = .sl (some 85) (r48.map Deal.c) := envp he553 rfl h534
          have h557 : eget e552 7 = .int .i64 r49 := envp he553 rfl h535
          have h558 : eget e552 8 = .lsl ([] : Mem).length r57.length 0 r57.length := envp he553 rfl h536
          have h559 : eget e552 9 = .lsl M59.length r70.length 0 r70.length := envp he553 rfl h537
          have h560 : eget e552 10 = .lsl M72.length r485.length 0 r485.length := envp he553 rfl h538
          have h561 : eget e552 11 = .int .i64 0 := envp he553 rfl h539
          have h562 : eget e552 58 = .bool (!r551) := envp he553 rfl rfl
          clear h532 h533 h534 h535 h536 h537 h538 h539 h540
          refine Ev.kseqN ?_
          rcases ite_some h with ⟨hb563, h⟩ | ⟨hb563, h⟩
          · refine Ev.condF h562 (congrArg Bool.not hb563) ?_
            refine Ev.ex ?_
            refine Ev.kseqN ?_
            refine Ev.seq ?_
            refine Ev.seq ?_
            refine Ev.reg (fun _ => rfl) ?_
            refine Ev.nxk (mvO h559) ?_
            refine Ev.nxk (mvO h555) ?_
            obtain ⟨r565, hx564, h⟩ := bind_some h
            refine Ev.nxck (Ev.call (v := .sl (some 85) (r565.map Deal.c)) rfl (cns rfl rfl) rfl (laws_toDealS_ok a2 _ hx564) (fun h => nomatch (show false = true from h))) ?_
            obtain ⟨r567, hx566, h⟩ := bind_some h
            refine Ev.nxck (Ev.call (v := .bool r567) rfl (cns rfl (cns rfl rfl)) (ra1 (ra1_row o543 rfl Deal.fl) (ra1 rfl ra0)) (laws_eqDealS_ok r70 r565 _ hx566) (fun _ => rfl)) ?_
            refine Ev.nxk (uNot rfl) ?_
            refine Ev.rend ?_
            intro e568 he569
            have h570 : eget e568 0 = .sl none (a1.map Deal.c) := envp he569 rfl h554
            have h571 : eget e568 1 = .sl none (a2.map Deal.c) := envp he569 rfl h555
            have h572 : eget e568 6 = .sl (some 85) (r48.map Deal.c) := envp he569 rfl h556
            have h573 : eget e568 7 = .int .i64 r49 := envp he569 rfl h557
            have h574 : eget e568 8 = .lsl ([] : Mem).length r57.length 0 r57.length := envp he569 rfl h558
            have h575 : eget e568 9 = .lsl M59.length r70.length 0 r70.length := envp he569 rfl h559
            have h576 : eget e568 10 = .lsl M72.length r485.length 0 r485.length := envp he569 rfl h560
            have h577 : eget e568 11 = .int .i64 0 := envp he569 rfl h561
            have h578 : eget e568 63 = .bool (!r567) := envp he569 rfl rfl
            clear h554 h555 h556 h557 h558 h559 h560 h561 h562
            refine Ev.kseqN ?_
            rcases ite_some h with ⟨hb579, h⟩ | ⟨hb579, h⟩
            · refine Ev.condF h578 (congrArg Bool.not hb579) ?_
              refine Ev.ex ?_
              refine Ev.kseqN ?_
              refine Ev.seq ?_
              refine Ev.reg (fun _ => rfl) ?_
              refine Ev.nxk (mvO rfl) ?_
              refine Ev.rend ?_
              intro e580 he581
              have h582 : eget e580 0 = .sl none (a1.map Deal.c) := envp he581 rfl h570
              have h583 : eget e580 1 = .sl none (a2.map Deal.c) := envp he581 rfl h571
              have h584 : eget e580 6 = .sl (some 85) (r48.map Deal.c) := envp he581 rfl h572
              have h585 : eget e580 7 = .int .i64 r49 := envp he581 rfl h573
              have h586 : eget e580 8 = .lsl ([] : Mem).length r57.length 0 r57.length := envp he581 rfl h574
              have h587 : eget e580 9 = .lsl M59.length r70.length 0 r70.length := envp he581 rfl h575
              have h588 : eget e580 10 = .lsl M72.length r485.length 0 r485.length := envp he581 rfl h576
              have h589 : eget e580 11 = .int .i64 0 := envp he581 rfl h577
              have h590 : eget e580 12 = .int .i64 1 := envp he581 rfl rfl
              clear h570 h571 h572 h573 h574 h575 h576 h577 h578
              refine Ev.kseqN ?_
              refine Ev.seq ?_
              refine Ev.reg (fun _ => rfl) ?_
              refine Ev.nxk (mvO h586) ?_
              refine Ev.nxk (mvO h590) ?_
              obtain ⟨⟨r592, r593⟩, hx591, h⟩ := bind_some h
              refine Ev.nxw (Ev.callW rfl (cns rfl (cns rfl rfl)) (laws_markDealS_l_ok r57 1 (([] : Mem).length) M530 o542 _ hx591)) ?_
              intro v596 M594 hq595
              obtain ⟨hv596, o597, fr598, hl599⟩ := hq595
              have hv596 : v596 = .int .i64 r592 := hv596
              subst hv596
              have o600 : M594[([] : Mem).length]? = some (.live ⟨.grow, 85, 6, r593.map Deal.c⟩) := o597
              have hl599 : r593.length = r57.length := hl599
              have o601 : M594[M72.length]? = some (.live ⟨.grow, 85, 6, r485.map Deal.c⟩) := fr598 _ _ (niC (Ne.symm ne491) niN) o541
              have o602 : M594[M59.length]? = some (.live ⟨.grow, 85, 6, r70.map Deal.c⟩) := fr598 _ _ (niC (Ne.symm ne75) niN) o543
              refine Ev.nxk (mvO rfl) ?_
              refine Ev.rend ?_
              intro e603 he604
              have h605 : eget e603 0 = .sl none (a1.map Deal.c) := envp he604 rfl h582
              have h606 : eget e603 1 = .sl none (a2.map Deal.c) := envp he604 rfl h583
              have h607 : eget e603 6 = .sl (some 85) (r48.map Deal.c) := envp he604 rfl h584
              have h608 : eget e603 7 = .int .i64 r49 := envp he604 rfl h585
              have h609 : eget e603 9 = .lsl M59.length r70.length 0 r70.length := envp he604 rfl h587
              have h610 : eget e603 10 = .lsl M72.length r485.length 0 r485.length := envp he604 rfl h588
              have h611 : eget e603 11 = .int .i64 0 := envp he604 rfl h589
              have h612 : eget e603 12 = .int .i64 r592 := envp he604 rfl rfl
              clear h582 h583 h584 h585 h586 h587 h588 h589
              refine Ev.kseqN ?_
              refine Ev.seq ?_
              refine Ev.reg (fun _ => rfl) ?_
              refine Ev.nxk (mvO h609) ?_
              refine Ev.nxk (mvO h612) ?_
              obtain ⟨⟨r614, r615⟩, hx613, h⟩ := bind_some h
              refine Ev.nxw (Ev.callW rfl (cns rfl (cns rfl rfl)) (laws_markDealS_l_ok r70 r592 M59.length M594 o602 _ hx613)) ?_
              intro v618 M616 hq617
              obtain ⟨hv618, o619, fr620, hl621⟩ := hq617
              have hv618 : v618 = .int .i64 r614 := hv618
              subst hv618
              have o622 : M616[M59.length]? = some (.live ⟨.grow, 85, 6, r615.map Deal.c⟩) := o619
              have hl621 : r615.length = r70.length := hl621
              have o623 : M616[M72.length]? = some (.live ⟨.grow, 85, 6, r485.map Deal.c⟩) := fr620 _ _ (niC (Ne.symm ne492) niN) o601
              refine Ev.nxk (mvO rfl) ?_
              refine Ev.rend ?_
              intro e624 he625
              have h626 : eget e624 0 = .sl none (a1.map Deal.c) := envp he625 rfl h605
              have h627 : eget e624 1 = .sl none (a2.map Deal.c) := envp he625 rfl h606
              have h628 : eget e624 6 = .sl (some 85) (r48.map Deal.c) := envp he625 rfl h607
              have h629 : eget e624 7 = .int .i64 r49 := envp he625 rfl h608
              have h630 : eget e624 10 = .lsl M72.length r485.length 0 r485.length := envp he625 rfl h610
              have h631 : eget e624 11 = .int .i64 0 := envp he625 rfl h611
              have h632 : eget e624 12 = .int .i64 r614 := envp he625 rfl rfl
              clear h605 h606 h607 h608 h609 h610 h611
              refine Ev.kseqN ?_
              refine Ev.seq ?_
              refine Ev.seq ?_
              obtain ⟨r887, hr888, h⟩ := bind_some h
              refine Ev.cut (Q1 := laws_FnExactPutTogether_c6_Q a1 a2 r48 r49 r485 M72.length r887) (by
                  have h := hr888
                  refine Ev.reg (fun _ => rfl) ?_
                  refine Ev.nxk (mvO h632) ?_
                  refine Ev.nxk (bLss rfl rfl) ?_
                  refine Ev.nxk (mvO rfl) ?_
                  rcases ite_some h with ⟨hb633, h⟩ | ⟨hb633, h⟩
                  · refine Ev.nxk (gsF rfl hb633) ?_
                    refine Ev.nxk (gsF rfl hb633) ?_
                    refine Ev.nxck (Ev.gsF rfl hb633) ?_
                    refine Ev.nxk (gsF rfl hb633) ?_
                    refine Ev.nxk (pkT rfl hb633 rfl) ?_
                    refine Ev.nxk (mvO rfl) ?_
                    refine Ev.nxk (gsF rfl rfl) ?_
                    refine Ev.nxk (gsF rfl rfl) ?_
                    refine Ev.nxk (gsF rfl rfl) ?_
                    refine Ev.nxk (pkT rfl rfl rfl) ?_
                    refine Ev.rend ?_
                    intro e634 he635
                    have h636 : eget e634 0 = .sl none (a1.map Deal.c) := envp he635 rfl h626
                    have h637 : eget e634 1 = .sl none (a2.map Deal.c) := envp he635 rfl h627
                    have h638 : eget e634 6 = .sl (some 85) (r48.map Deal.c) := envp he635 rfl h628
                    have h639 : eget e634 7 = .int .i64 r49 := envp he635 rfl h629
                    have h640 : eget e634 10 = .lsl M72.length r485.length 0 r485.length := envp he635 rfl h630
                    have h641 : eget e634 82 = .bool true := envp he635 rfl rfl
                    clear h626 h627 h628 h629 h630 h631 h632
                    cases h
                    exact Ev.kid (show laws_FnExactPutTogether_c6_Q a1 a2 r48 r49 r485 M72.length _ _ from (And.intro rfl (And.intro h636 (And.intro h637 (And.intro h638 (And.intro h639 (And.intro h640 (And.intro h641 o623))))))))
                  · refine Ev.nxk (guF rfl hb633 (mvO h630)) ?_
                    refine Ev.nxk (guF rfl hb633 (mvO h628)) ?_
                    obtain ⟨r643, hx642, h⟩ := bind_some h
                    refine Ev.nxck (Ev.guF rfl hb633 (Ev.call (v := .bool r643) rfl (cns rfl (cns rfl rfl)) (ra1 (ra1_row o623 rfl Deal.fl) (ra1 rfl ra0)) (laws_eqDealS_ok r485 r48 _ hx642) (fun _ => rfl))) ?_
                    refine Ev.nxk (guF rfl hb633 (uNot rfl)) ?_
                    refine Ev.nxk (pkF rfl hb633 rfl) ?_
                    refine Ev.nxk (mvO rfl) ?_
                    rcases ite_some h with ⟨hb644, h⟩ | ⟨hb644, h⟩
                    · refine Ev.nxk (guF rfl (congrArg Bool.not hb644) (mvO h631)) ?_
                      refine Ev.nxk (guF rfl (congrArg Bool.not hb644) (mvO h629)) ?_
                      refine Ev.nxk (guF rfl (congrArg Bool.not hb644) (bNeq rfl rfl)) ?_
                      refine Ev.nxk (pkF rfl (congrArg Bool.not hb644) rfl) ?_
                      refine Ev.rend ?_
                      intro e645 he646
                      have h647 : eget e645 0 = .sl none (a1.map Deal.c) := envp he646 rfl h626
                      have h648 : eget e645 1 = .sl none (a2.map Deal.c) := envp he646 rfl h627
                      have h649 : eget e645 6 = .sl (some 85) (r48.map Deal.c) := envp he646 rfl h628
                      have h650 : eget e645 7 = .int .i64 r49 := envp he646 rfl h629
                      have h651 : eget e645 10 = .lsl M72.length r485.length 0 r485.length := envp he646 rfl h630
                      have h652 : eget e645 82 = .bool (0 != r49) := envp he646 rfl rfl
                      clear h626 h627 h628 h629 h630 h631 h632
                      cases h
                      exact Ev.kid (show laws_FnExactPutTogether_c6_Q a1 a2 r48 r49 r485 M72.length _ _ from (And.intro rfl (And.intro h647 (And.intro h648 (And.intro h649 (And.intro h650 (And.intro h651 (And.intro h652 o623))))))))
                    · refine Ev.nxk (gsF rfl (congrArg Bool.not hb644)) ?_
                      refine Ev.nxk (gsF rfl (congrArg Bool.not hb644)) ?_
                      refine Ev.nxk (gsF rfl (congrArg Bool.not hb644)) ?_
                      refine Ev.nxk (pkT rfl (congrArg Bool.not hb644) rfl) ?_
                      refine Ev.rend ?_
                      intro e653 he654
                      have h655 : eget e653 0 = .sl none (a1.map Deal.c) := envp he654 rfl h626
                      have h656 : eget e653 1 = .sl none (a2.map Deal.c) := envp he654 rfl h627
                      have h657 : eget e653 6 = .sl (some 85) (r48.map Deal.c) := envp he654 rfl h628
                      have h658 : eget e653 7 = .int .i64 r49 := envp he654 rfl h629
                      have h659 : eget e653 10 = .lsl M72.length r485.length 0 r485.length := envp he654 rfl h630
                      have h660 : eget e653 82 = .bool true := envp he654 rfl rfl
                      clear h626 h627 h628 h629 h630 h631 h632
                      cases h
                      exact Ev.kid (show laws_FnExactPutTogether_c6_Q a1 a2 r48 r49 r485 M72.length _ _ from (And.intro rfl (And.intro h655 (And.intro h656 (And.intro h657 (And.intro h658 (And.intro h659 (And.intro h660 o623))))))))) ?_
              revert h hr888
              revert r887
              intro y663 hr888 h
              intro x e661 M662 hq886
              obtain ⟨rfl, h664, h665, h666, h667, h668, h669, o670⟩ := hq886
              refine Ev.kseqN ?_
              rcases ite_some h with ⟨hb671, h⟩ | ⟨hb671, h⟩
              · refine Ev.condT h669 hb671 ?_
                refine Ev.seq ?_
                refine Ev.reg (fun _ => rfl) ?_
                refine Ev.nxk (mvO rfl) ?_
                refine Ev.rend ?_
                intro e672 he673
                have h674 : eget e672 4 = .bool false := envp he673 rfl rfl
                clear h664 h665 h666 h667 h668 h669
                refine Ev.kseqN ?_
                refine Ev.ex ?_
                refine Ev.kseqR ?_
                cases h
                exact Ev.kendR (resT h674 res0) rfl
              · refine Ev.condF h669 hb671 ?_
                refine Ev.ex ?_
                refine Ev.kseqN ?_
                refine Ev.seq ?_
                refine Ev.reg (fun _ => rfl) ?_
                refine Ev.nxk (mvO rfl) ?_
                refine Ev.rend ?_
                intro e675 he676
                have h677 : eget e675 0 = .sl none (a1.map Deal.c) := envp he676 rfl h664
                have h678 : eget e675 1 = .sl none (a2.map Deal.c) := envp he676 rfl h665
                have h679 : eget e675 6 = .sl (some 85) (r48.map Deal.c) := envp he676 rfl h666
                have h680 : eget e675 7 = .int .i64 r49 := envp he676 rfl h667
                have h681 : eget e675 10 = .lsl M72.length r485.length 0 r485.length := envp he676 rfl h668
                have h682 : eget e675 13 = .int .i64 1 := envp he676 rfl rfl
                clear h664 h665 h666 h667 h668 h669
                refine Ev.kseqN ?_
                refine Ev.seq ?_
                refine Ev.reg (fun _ => rfl) ?_
                refine Ev.nxk (mvO h681) ?_
                refine Ev.nxk (mvO h682) ?_
                obtain ⟨⟨r684, r685⟩, hx683, h⟩ := bind_some h
                refine Ev.nxw (Ev.callW rfl (cns rfl (cns rfl rfl)) (laws_markDealS_l_ok r485 1 M72.length M662 o670 _ hx683)) ?_
                intro v688 M686 hq687
                obtain ⟨hv688, o689, fr690, hl691⟩ := hq687
                have hv688 : v688 = .int .i64 r684 := hv688
                subst hv688
                have o692 : M686[M72.length]? = some (.live ⟨.grow, 85, 6, r685.map Deal.c⟩) := o689
                have hl691 : r685.length = r485.length := hl691
                refine Ev.nxk (mvO rfl) ?_
                refine Ev.rend ?_
                intro e693 he694
                have h695 : eget e693 0 = .sl none (a1.map Deal.c) := envp he694 rfl h677
                have h696 : eget e693 1 = .sl none (a2.map Deal.c) := envp he694 rfl h678
                have h697 : eget e693 6 = .sl (some 85) (r48.map Deal.c) := envp he694 rfl h679
                have h698 : eget e693 7 = .int .i64 r49 := envp he694 rfl h680
                have h699 : eget e693 10 = .lsl M72.length r485.length 0 r485.length := envp he694 rfl h681
                have h700 : eget e693 13 = .int .i64 r684 := envp he694 rfl rfl
                clear h677 h678 h679 h680 h681
                refine Ev.kseqN ?_
                refine Ev.seq ?_
                refine Ev.reg (fun _ => rfl) ?_
                refine Ev.nxk (mvO rfl) ?_
                refine Ev.rend ?_
                intro e701 he702
                have h703 : eget e701 0 = .sl none (a1.map Deal.c) := envp he702 rfl h695
                have h704 : eget e701 1 = .sl none (a2.map Deal.c) := envp he702 rfl h696
                have h705 : eget e701 6 = .sl (some 85) (r48.map Deal.c) := envp he702 rfl h697
                have h706 : eget e701 7 = .int .i64 r49 := envp he702 rfl h698
                have h707 : eget e701 10 = .lsl M72.length r485.length 0 r485.length := envp he702 rfl h699
                have h708 : eget e701 13 = .int .i64 r684 := envp he702 rfl h700
                have h709 : eget e701 14 = .int .i64 1 := envp he702 rfl rfl
                clear h695 h696 h697 h698 h699 h700
                refine Ev.kseqN ?_
                refine Ev.seq ?_
                refine Ev.reg (fun _ => rfl) ?_
                refine Ev.nxk (mvO (lslL (L' := r685.length) h707 (by simp [hl599, hl621, hl691]))) ?_
                refine Ev.nxk (mvO h709) ?_
                obtain ⟨r711, hx710, h⟩ := bind_some h
                refine Ev.nxck (Ev.call (v := .int .i64 r711) rfl (cns rfl (cns rfl rfl)) (ra1 (ra1_row o692 rfl Deal.fl) (ra1 rfl ra0)) (laws_heldDealS_ok r685 1 _ hx710) (fun _ => rfl)) ?_
                refine Ev.nxk (mvO rfl) ?_
                refine Ev.rend ?_
                intro e712 he713
                have h714 : eget e712 0 = .sl none (a1.map Deal.c) := envp he713 rfl h703
                have h715 : eget e712 1 = .sl none (a2.map Deal.c) := envp he713 rfl h704
                have h716 : eget e712 6 = .sl (some 85) (r48.map Deal.c) := envp he713 rfl h705
                have h717 : eget e712 7 = .int .i64 r49 := envp he713 rfl h706
                have h718 : eget e712 10 = .lsl M72.length r485.length 0 r485.length := envp he713 rfl h707
                have h719 : eget e712 13 = .int .i64 r684 := envp he713 rfl h708
                have h720 : eget e712 14 = .int .i64 r711 := envp he713 rfl rfl
                clear h703 h704 h705 h706 h707 h708
                refine Ev.kseqN ?_
                refine Ev.seq ?_
                refine Ev.seq ?_
                refine Ev.reg (fun _ => rfl) ?_
                refine Ev.nxk (mvO h720) ?_
                refine Ev.nxk (bLss rfl rfl) ?_
                refine Ev.rend ?_
                intro e721 he722
                have h723 : eget e721 0 = .sl none (a1.map Deal.c) := envp he722 rfl h714
                have h724 : eget e721 1 = .sl none (a2.map Deal.c) := envp he722 rfl h715
                have h725 : eget e721 6 = .sl (some 85) (r48.map Deal.c) := envp he722 rfl h716
                have h726 : eget e721 7 = .int .i64 r49 := envp he722 rfl h717
                have h727 : eget e721 10 = .lsl M72.length r485.length 0 r485.length := envp he722 rfl h718
                have h728 : eget e721 13 = .int .i64 r684 := envp he722 rfl h719
                have h729 : eget e721 14 = .int .i64 r711 := envp he722 rfl h720
                have h730 : eget e721 90 = .bool (decide (r711 < 0)) := envp he722 rfl rfl
                clear h714 h715 h716 h717 h718 h719 h720
                refine Ev.kseqN ?_
                rcases ite_some h with ⟨hb731, h⟩ | ⟨hb731, h⟩
                · refine Ev.condT h730 hb731 ?_
                  refine Ev.seq ?_
                  refine Ev.reg (fun _ => rfl) ?_
                  refine Ev.nxk (mvO rfl) ?_
                  refine Ev.rend ?_
                  intro e732 he733
                  have h734 : eget e732 4 = .bool false := envp he733 rfl rfl
                  clear h723 h724 h725 h726 h727 h728 h729 h730
                  refine Ev.kseqN ?_
                  refine Ev.ex ?_
                  refine Ev.kseqR ?_
                  cases h
                  exact Ev.kendR (resT h734 res0) rfl
                · refine Ev.condF h730 hb731 ?_
                  refine Ev.ex ?_
                  refine Ev.kseqN ?_
                  refine Ev.seq ?_
                  refine Ev.seq ?_
                  refine Ev.reg (fun _ => rfl) ?_
                  refine Ev.nxk (mvO h729) ?_
                  refine Ev.nxk (mvO h728) ?_
                  refine Ev.nxk (bNeq rfl rfl) ?_
                  refine Ev.rend ?_
                  intro e735 he736
                  have h737 : eget e735 0 = .sl none (a1.map Deal.c) := envp he736 rfl h723
                  have h738 : eget e735 1 = .sl none (a2.map Deal.c) := envp he736 rfl h724
                  have h739 : eget e735 6 = .sl (some 85) (r48.map Deal.c) := envp he736 rfl h725
                  have h740 : eget e735 7 = .int .i64 r49 := envp he736 rfl h726
                  have h741 : eget e735 10 = .lsl M72.length r485.length 0 r485.length := envp he736 rfl h727
                  have h742 : eget e735 13 = .int .i64 r684 := envp he736 rfl h728
                  have h743 : eget e735 93 = .bool (r711 != r684) := envp he736 rfl rfl
                  clear h723 h724 h725 h726 h727 h728 h729 h730
                  refine Ev.kseqN ?_
                  rcases ite_some h with ⟨hb744, h⟩ | ⟨hb744, h⟩
                  · refine Ev.condT h743 hb744 ?_
                    refine Ev.seq ?_
                    refine Ev.reg (fun _ => rfl) ?_
                    refine Ev.nxk (mvO rfl) ?_
                    refine Ev.rend ?_
                    intro e745 he746
                    have h747 : eget e745 4 = .bool false := envp he746 rfl rfl
                    clear h737 h738 h739 h740 h741 h742 h743
                    refine Ev.kseqN ?_
                    refine Ev.ex ?_
                    refine Ev.kseqR ?_
                    cases h
                    exact Ev.kendR (resT h747 res0) rfl
                  · refine Ev.condF h743 hb744 ?_
                    refine Ev.ex ?_
                    refine Ev.kseqN ?_
                    refine Ev.seq ?_
                    refine Ev.reg (fun _ => rfl) ?_
                    refine Ev.nxk (mvO h737) ?_
                    obtain ⟨r749, hx748, h⟩ := bind_some h
                    refine Ev.nxck (Ev.call (v := .sl (some 85) (r749.map Deal.c)) rfl (cns rfl rfl) rfl (laws_toDealS_ok a1 _ hx748) (fun h => nomatch (show false = true from h))) ?_
                    refine Ev.nxk (mvO h738) ?_
                    obtain ⟨r751, hx750, h⟩ := bind_some h
                    refine Ev.nxck (Ev.call (v := .sl (some 85) (r751.map Deal.c)) rfl (cns rfl rfl) rfl (laws_toDealS_ok a2 _ hx750) (fun h => nomatch (show false = true from h))) ?_
                    obtain ⟨q885, hx752, h⟩ := bind_some h
                    rcases q885 with r753 | r819
                    · refine Ev.nxck (Ev.call (v := .tup [.nils, .int .i64 r753]) rfl (cns rfl (cns rfl rfl)) rfl (impl_PutTogether_ok r749 r751 _ hx752) (fun h => nomatch (show false = true from h))) ?_
                      refine Ev.nxk (mvO rfl) ?_
                      refine Ev.nxk (exT rfl rfl) ?_
                      refine Ev.nxk (exT rfl rfl) ?_
                      refine Ev.nxk (mvO rfl) ?_
                      refine Ev.nxk (mvO rfl) ?_
                      refine Ev.rend ?_
                      intro e754 he755
                      have h756 : eget e754 6 = .sl (some 85) (r48.map Deal.c) := envp he755 rfl h739
                      have h757 : eget e754 7 = .int .i64 r49 := envp he755 rfl h740
                      have h758 : eget e754 10 = .lsl M72.length r485.length 0 r485.length := envp he755 rfl h741
                      have h759 : eget e754 13 = .int .i64 r684 := envp he755 rfl h742
                      have h760 : eget e754 15 = .nils := envp he755 rfl rfl
                      have h761 : eget e754 16 = .int .i64 r753 := envp he755 rfl rfl
                      clear h737 h738 h739 h740 h741 h742 h743
                      refine Ev.kseqN ?_
                      refine Ev.seq ?_
                      refine Ev.seq ?_
                      obtain ⟨r817, hr818, h⟩ := bind_some h
                      refine Ev.cut (Q1 := laws_FnExactPutTogether_c7_Q r684 r685 M72.length r817) (by
                          have h := hr818
                          refine Ev.reg (fun _ => rfl) ?_
                          refine Ev.nxk (mvO h760) ?_
                          refine Ev.nxk (mvO h756) ?_
                          obtain ⟨r763, hx762, h⟩ := bind_some h
                          refine Ev.nxck (Ev.call (v := .bool r763) rfl (cns rfl (cns rfl rfl)) rfl (laws_eqDealS_ok ([] : List Deal) r48 _ hx762) (fun h => nomatch (show false = true from h))) ?_
                          refine Ev.nxk (uNot rfl) ?_
                          refine Ev.nxk (mvO rfl) ?_
                          rcases ite_some h with ⟨hb764, h⟩ | ⟨hb764, h⟩
                          · refine Ev.nxk (guF rfl (congrArg Bool.not hb764) (mvO h761)) ?_
                            refine Ev.nxk (guF rfl (congrArg Bool.not hb764) (mvO h757)) ?_
                            refine Ev.nxk (guF rfl (congrArg Bool.not hb764) (bNeq rfl rfl)) ?_
                            refine Ev.nxk (pkF rfl (congrArg Bool.not hb764) rfl) ?_
                            refine Ev.rend ?_
                            intro e765 he766
                            have h767 : eget e765 10 = .lsl M72.length r485.length 0 r485.length := envp he766 rfl h758
                            have h768 : eget e765 13 = .int .i64 r684 := envp he766 rfl h759
                            have h769 : eget e765 110 = .bool (r753 != r49) := envp he766 rfl rfl
                            clear h756 h757 h758 h759 h760 h761
                            cases h
                            exact Ev.kid (show laws_FnExactPutTogether_c7_Q r684 r685 M72.length _ _ from (And.intro rfl (And.intro (lslL (L' := r685.length) h767 (by simp [hl599, hl621, hl691])) (And.intro h768 (And.intro h769 o692)))))
                          · refine Ev.nxk (gsF rfl (congrArg Bool.not hb764)) ?_
                            refine Ev.nxk (gsF rfl (congrArg Bool.not hb764)) ?_
                            refine Ev.nxk (gsF rfl (congrArg Bool.not hb764)) ?_
                            refine Ev.nxk (pkT rfl (congrArg Bool.not hb764) rfl) ?_
                            refine Ev.rend ?_
                            intro e770 he771
                            have h772 : eget e770 10 = .lsl M72.length r485.length 0 r485.length := envp he771 rfl h758
                            have h773 : eget e770 13 = .int .i64 r684 := envp he771 rfl h759
                            have h774 : eget e770 110 = .bool true := envp he771 rfl rfl
                            clear h756 h757 h758 h759 h760 h761
                            cases h
                            exact Ev.kid (show laws_FnExactPutTogether_c7_Q r684 r685 M72.length _ _ from (And.intro rfl (And.intro (lslL (L' := r685.length) h772 (by simp [hl599, hl621, hl691])) (And.intro h773 (And.intro h774 o692)))))) ?_
                      revert h hr818
                      revert r817
                      intro y777 hr818 h
                      intro x e775 M776 hq816
                      obtain ⟨rfl, h778, h779, h780, o781⟩ := hq816
                      refine Ev.kseqN ?_
                      rcases ite_some h with ⟨hb782, h⟩ | ⟨hb782, h⟩
                      · refine Ev.condT h780 hb782 ?_
                        refine Ev.seq ?_
                        refine Ev.reg (fun _ => rfl) ?_
                        refine Ev.nxk (mvO rfl) ?_
                        refine Ev.rend ?_
                        intro e783 he784
                        have h785 : eget e783 4 = .bool false := envp he784 rfl rfl
                        clear h778 h779 h780
                        refine Ev.kseqN ?_
                        refine Ev.ex ?_
                        refine Ev.kseqR ?_
                        cases h
                        exact Ev.kendR (resT h785 res0) rfl
                      · refine Ev.condF h780 hb782 ?_
                        refine Ev.ex ?_
                        refine Ev.kseqN ?_
                        refine Ev.seq ?_
                        refine Ev.reg (fun _ => rfl) ?_
                        refine Ev.nxk (mvO rfl) ?_
                        refine Ev.rend ?_
                        intro e786 he787
                        have h788 : eget e786 10 = .lsl M72.length r685.length 0 r685.length := envp he787 rfl h778
                        have h789 : eget e786 13 = .int .i64 r684 := envp he787 rfl h779
                        have h790 : eget e786 14 = .int .i64 1 := envp he787 rfl rfl
                        clear h778 h779 h780
                        refine Ev.kseqN ?_
                        refine Ev.seq ?_
                        refine Ev.reg (fun _ => rfl) ?_
                        refine Ev.nxk (mvO h788) ?_
                        refine Ev.nxk (mvO h790) ?_
                        obtain ⟨r792, hx791, h⟩ := bind_some h
                        refine Ev.nxck (Ev.call (v := .int .i64 r792) rfl (cns rfl (cns rfl rfl)) (ra1 (ra1_row o781 rfl Deal.fl) (ra1 rfl ra0)) (laws_heldDealS_ok r685 1 _ hx791) (fun _ => rfl)) ?_
                        refine Ev.nxk (mvO rfl) ?_
                        refine Ev.rend ?_
                        intro e793 he794
                        have h795 : eget e793 13 = .int .i64 r684 := envp he794 rfl h789
                        have h796 : eget e793 14 = .int .i64 r792 := envp he794 rfl rfl
                        clear h788 h789
                        refine Ev.kseqN ?_
                        refine Ev.seq ?_
                        refine Ev.seq ?_
                        refine Ev.reg (fun _ => rfl) ?_
                        refine Ev.nxk (mvO h796) ?_
                        refine Ev.nxk (bLss rfl rfl) ?_
                        refine Ev.rend ?_
                        intro e797 he798
                        have h799 : eget e797 13 = .int .i64 r684 := envp he798 rfl h795
                        have h800 : eget e797 14 = .int .i64 r792 := envp he798 rfl h796
                        have h801 : eget e797 115 = .bool (decide (r792 < 0)) := envp he798 rfl rfl
                        clear h795 h796
                        refine Ev.kseqN ?_
                        rcases ite_some h with ⟨hb802, h⟩ | ⟨hb802, h⟩
                        · refine Ev.condT h801 hb802 ?_
                          refine Ev.seq ?_
                          refine Ev.reg (fun _ => rfl) ?_
                          refine Ev.nxk (mvO rfl) ?_
                          refine Ev.rend ?_
                          intro e803 he804
                          have h805 : eget e803 4 = .bool false := envp he804 rfl rfl
                          clear h799 h800 h801
                          refine Ev.kseqN ?_
                          refine Ev.ex ?_
                          refine Ev.kseqR ?_
                          cases h
                          exact Ev.kendR (resT h805 res0) rfl
                        · refine Ev.condF h801 hb802 ?_
                          refine Ev.ex ?_
                          refine Ev.kseqN ?_
                          refine Ev.seq ?_
                          refine Ev.seq ?_
                          refine Ev.reg (fun _ => rfl) ?_
                          refine Ev.nxk (mvO h800) ?_
                          refine Ev.nxk (mvO h799) ?_
                          refine Ev.nxk (bNeq rfl rfl) ?_
                          refine Ev.rend ?_
                          intro e806 he807
                          have h808 : eget e806 118 = .bool (r792 != r684) := envp he807 rfl rfl
                          clear h799 h800 h801
                          refine Ev.kseqN ?_
                          rcases ite_some h with ⟨hb809, h⟩ | ⟨hb809, h⟩
                          · refine Ev.condT h808 hb809 ?_
                            refine Ev.seq ?_
                            refine Ev.reg (fun _ => rfl) ?_
                            refine Ev.nxk (mvO rfl) ?_
                            refine Ev.rend ?_
                            intro e810 he811
                            have h812 : eget e810 4 = .bool false := envp he811 rfl rfl
                            clear h808
                            refine Ev.kseqN ?_
                            refine Ev.ex ?_
                            refine Ev.kseqR ?_
                            cases h
                            exact Ev.kendR (resT h812 res0) rfl
                          · refine Ev.condF h808 hb809 ?_
                            refine Ev.ex ?_
                            refine Ev.kseqN ?_
                            refine Ev.seq ?_
                            refine Ev.reg (fun _ => rfl) ?_
                            refine Ev.nxk (mvO rfl) ?_
                            refine Ev.rend ?_
                            intro e813 he814
                            have h815 : eget e813 4 = .bool true := envp he814 rfl rfl
                            clear h808
                            refine Ev.kseqN ?_
                            refine Ev.ex ?_
                            cases h
                            exact Ev.kendR (resT h815 res0) rfl
                    · refine Ev.nxck (Ev.call (v := .tup [.sl (some 85) (r819.map Deal.c), .int .i64 0]) rfl (cns rfl (cns rfl rfl)) rfl (impl_PutTogether_ok r749 r751 _ hx752) (fun h => nomatch (show false = true from h))) ?_
                      refine Ev.nxk (mvO rfl) ?_
                      refine Ev.nxk (exT rfl rfl) ?_
                      refine Ev.nxk (exT rfl rfl) ?_
                      refine Ev.nxk (mvO rfl) ?_
                      refine Ev.nxk (mvO rfl) ?_
                      refine Ev.rend ?_
                      intro e820 he821
                      have h822 : eget e820 6 = .sl (some 85) (r48.map Deal.c) := envp he821 rfl h739
                      have h823 : eget e820 7 = .int .i64 r49 := envp he821 rfl h740
                      have h824 : eget e820 10 = .lsl M72.length r485.length 0 r485.length := envp he821 rfl h741
                      have h825 : eget e820 13 = .int .i64 r684 := envp he821 rfl h742
                      have h826 : eget e820 15 = .sl (some 85) (r819.map Deal.c) := envp he821 rfl rfl
                      have h827 : eget e820 16 = .int .i64 0 := envp he821 rfl rfl
                      clear h737 h738 h739 h740 h741 h742 h743
                      refine Ev.kseqN ?_
                      refine Ev.seq ?_
                      refine Ev.seq ?_
                      obtain ⟨r883, hr884, h⟩ := bind_some h
                      refine Ev.cut (Q1 := laws_FnExactPutTogether_c8_Q r684 r685 M72.length r883) (by
                          have h := hr884
                          refine Ev.reg (fun _ => rfl) ?_
                          refine Ev.nxk (mvO h826) ?_
                          refine Ev.nxk (mvO h822) ?_
                          obtain ⟨r829, hx828, h⟩ := bind_some h
                          refine Ev.nxck (Ev.call (v := .bool r829) rfl (cns rfl (cns rfl rfl)) rfl (laws_eqDealS_ok r819 r48 _ hx828) (fun h => nomatch (show false = true from h))) ?_
                          refine Ev.nxk (uNot rfl) ?_
                          refine Ev.nxk (mvO rfl) ?_
                          rcases ite_some h with ⟨hb830, h⟩ | ⟨hb830, h⟩
                          · refine Ev.nxk (guF rfl (congrArg Bool.not hb830) (mvO h827)) ?_
                            refine Ev.nxk (guF rfl (congrArg Bool.not hb830) (mvO h823)) ?_
                            refine Ev.nxk (guF rfl (congrArg Bool.not hb830) (bNeq rfl rfl)) ?_
                            refine Ev.nxk (pkF rfl (congrArg Bool.not hb830) rfl) ?_
                            refine Ev.rend ?_
                            intro e831 he832
                            have h833 : eget e831 10 = .lsl M72.length r485.length 0 r485.length := envp he832 rfl h824
                            have h834 : eget e831 13 = .int .i64 r684 := envp he832 rfl h825
                            have h835 : eget e831 110 = .bool (0 != r49) := envp he832 rfl rfl
                            clear h822 h823 h824 h825 h826 h827
                            cases h
                            exact Ev.kid (show laws_FnExactPutTogether_c8_Q r684 r685 M72.length _ _ from (And.intro rfl (And.intro (lslL (L' := r685.length) h833 (by simp [hl599, hl621, hl691])) (And.intro h834 (And.intro h835 o692)))))
                          · refine Ev.nxk (gsF rfl (congrArg Bool.not hb830)) ?_
                            refine Ev.nxk (gsF rfl (congrArg Bool.not hb830)) ?_
                            refine Ev.nxk (gsF rfl (congrArg Bool.not hb830)) ?_
                            refine Ev.nxk (pkT rfl (congrArg Bool.not hb830) rfl) ?_
                            refine Ev.rend ?_
                            intro e836 he837
                            have h838 : eget e836 10 = .lsl M72.length r485.length 0 r485.length := envp he837 rfl h824
                            have h839 : eget e836 13 = .int .i64 r684 := envp he837 rfl h825
                            have h840 : eget e836 110 = .bool true := envp he837 rfl rfl
                            clear h822 h823 h824 h825 h826 h827
                            cases h
                            exact Ev.kid (show laws_FnExactPutTogether_c8_Q r684 r685 M72.length _ _ from (And.intro rfl (And.intro (lslL (L' := r685.length) h838 (by simp [hl599, hl621, hl691])) (And.intro h839 (And.intro h840 o692)))))) ?_
                      revert h hr884
                      revert r883
                      intro y843 hr884 h
                      intro x e841 M842 hq882
                      obtain ⟨rfl, h844, h845, h846, o847⟩ := hq882
                      refine Ev.kseqN ?_
                      rcases ite_some h with ⟨hb848, h⟩ | ⟨hb848, h⟩
                      · refine Ev.condT h846 hb848 ?_
                        refine Ev.seq ?_
                        refine Ev.reg (fun _ => rfl) ?_
                        refine Ev.nxk (mvO rfl) ?_
                        refine Ev.rend ?_
                        intro e849 he850
                        have h851 : eget e849 4 = .bool false := envp he850 rfl rfl
                        clear h844 h845 h846
                        refine Ev.kseqN ?_
                        refine Ev.ex ?_
                        refine Ev.kseqR ?_
                        cases h
                        exact Ev.kendR (resT h851 res0) rfl
                      · refine Ev.condF h846 hb848 ?_
                        refine Ev.ex ?_
                        refine Ev.kseqN ?_
                        refine Ev.seq ?_
                        refine Ev.reg (fun _ => rfl) ?_
                        refine Ev.nxk (mvO rfl) ?_
                        refine Ev.rend ?_
                        intro e852 he853
                        have h854 : eget e852 10 = .lsl M72.length r685.length 0 r685.length := envp he853 rfl h844
                        have h855 : eget e852 13 = .int .i64 r684 := envp he853 rfl h845
                        have h856 : eget e852 14 = .int .i64 1 := envp he853 rfl rfl
                        clear h844 h845 h846
                        refine Ev.kseqN ?_
                        refine Ev.seq ?_
                        refine Ev.reg (fun _ => rfl) ?_
                        refine Ev.nxk (mvO h854) ?_
                        refine Ev.nxk (mvO h856) ?_
                        obtain ⟨r858, hx857, h⟩ := bind_some h
                        refine Ev.nxck (Ev.call (v := .int .i64 r858) rfl (cns rfl (cns rfl rfl)) (ra1 (ra1_row o847 rfl Deal.fl) (ra1 rfl ra0)) (laws_heldDealS_ok r685 1 _ hx857) (fun _ => rfl)) ?_
                        refine Ev.nxk (mvO rfl) ?_
                        refine Ev.rend ?_
                        intro e859 he860
                        have h861 : eget e859 13 = .int .i64 r684 := envp he860 rfl h855
                        have h862 : eget e859 14 = .int .i64 r858 := envp he860 rfl rfl
                        clear h854 h855
                        refine Ev.kseqN ?_
                        refine Ev.seq ?_
                        refine Ev.seq ?_
                        refine Ev.reg (fun _ => rfl) ?_
                        refine Ev.nxk (mvO h862) ?_
                        refine Ev.nxk (bLss rfl rfl) ?_
                        refine Ev.rend ?_
                        intro e863 he864
                        have h865 : eget e863 13 = .int .i64 r684 := envp he864 rfl h861
                        have h866 : eget e863 14 = .int .i64 r858 := envp he864 rfl h862
                        have h867 : eget e863 115 = .bool (decide (r858 < 0)) := envp he864 rfl rfl
                        clear h861 h862
                        refine Ev.kseqN ?_
                        rcases ite_some h with ⟨hb868, h⟩ | ⟨hb868, h⟩
                        · refine Ev.condT h867 hb868 ?_
                          refine Ev.seq ?_
                          refine Ev.reg (fun _ => rfl) ?_
                          refine Ev.nxk (mvO rfl) ?_
                          refine Ev.rend ?_
                          intro e869 he870
                          have h871 : eget e869 4 = .bool false := envp he870 rfl rfl
                          clear h865 h866 h867
                          refine Ev.kseqN ?_
                          refine Ev.ex ?_
                          refine Ev.kseqR ?_
                          cases h
                          exact Ev.kendR (resT h871 res0) rfl
                        · refine Ev.condF h867 hb868 ?_
                          refine Ev.ex ?_
                          refine Ev.kseqN ?_
                          refine Ev.seq ?_
                          refine Ev.seq ?_
                          refine Ev.reg (fun _ => rfl) ?_
                          refine Ev.nxk (mvO h866) ?_
                          refine Ev.nxk (mvO h865) ?_
                          refine Ev.nxk (bNeq rfl rfl) ?_
                          refine Ev.rend ?_
                          intro e872 he873
                          have h874 : eget e872 118 = .bool (r858 != r684) := envp he873 rfl rfl
                          clear h865 h866 h867
                          refine Ev.kseqN ?_
                          rcases ite_some h with ⟨hb875, h⟩ | ⟨hb875, h⟩
                          · refine Ev.condT h874 hb875 ?_
                            refine Ev.seq ?_
                            refine Ev.reg (fun _ => rfl) ?_
                            refine Ev.nxk (mvO rfl) ?_
                            refine Ev.rend ?_
                            intro e876 he877
                            have h878 : eget e876 4 = .bool false := envp he877 rfl rfl
                            clear h874
                            refine Ev.kseqN ?_
                            refine Ev.ex ?_
                            refine Ev.kseqR ?_
                            cases h
                            exact Ev.kendR (resT h878 res0) rfl
                          · refine Ev.condF h874 hb875 ?_
                            refine Ev.ex ?_
                            refine Ev.kseqN ?_
                            refine Ev.seq ?_
                            refine Ev.reg (fun _ => rfl) ?_
                            refine Ev.nxk (mvO rfl) ?_
                            refine Ev.rend ?_
                            intro e879 he880
                            have h881 : eget e879 4 = .bool true := envp he880 rfl rfl
                            clear h874
                            refine Ev.kseqN ?_
                            refine Ev.ex ?_
                            cases h
                            exact Ev.kendR (resT h881 res0) rfl
            · refine Ev.condT h578 (congrArg Bool.not hb579) ?_
              refine Ev.seq ?_
              refine Ev.reg (fun _ => rfl) ?_
              refine Ev.nxk (mvO rfl) ?_
              refine Ev.rend ?_
              intro e889 he890
              have h891 : eget e889 4 = .bool false := envp he890 rfl rfl
              clear h570 h571 h572 h573 h574 h575 h576 h577 h578
              refine Ev.kseqN ?_
              refine Ev.ex ?_
              refine Ev.kseqR ?_
              cases h
              exact Ev.kendR (resT h891 res0) rfl
          · refine Ev.condT h562 (congrArg Bool.not hb563) ?_
            refine Ev.seq ?_
            refine Ev.reg (fun _ => rfl) ?_
            refine Ev.nxk (mvO rfl) ?_
            refine Ev.rend ?_
            intro e892 he893
            have h894 : eget e892 4 = .bool false := envp he893 rfl rfl
            clear h554 h555 h556 h557 h558 h559 h560 h561 h562
            refine Ev.kseqN ?_
            refine Ev.ex ?_
            refine Ev.kseqR ?_
            cases h
            exact Ev.kendR (resT h894 res0) rfl
end Go.Proofs.Ytfabokkhdalbeaa
