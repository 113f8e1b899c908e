/-
  The four moduli: Fermat's little theorem for each, and 5 has full order. No conditions.
-/
import Derived.Test.YtmgheellmllfpaaNuma
namespace Go.Num
set_option maxRecDepth 100000
theorem p2 : CP 2 := small (by decide) (by decide +kernel)
theorem p3 : CP 3 := small (by decide) (by decide +kernel)
theorem p4 : CP 13 := small (by decide) (by decide +kernel)
theorem p5 : CP 827 := small (by decide) (by decide +kernel)
theorem p1_ne (n : Nat) (h : n ∈ [2, 2, 2, 2, 2, 2, 2, 2, 2, 3, 13, 827]) : 5 ^ ((16513537 - 1) / n) % 16513537 ≠ 1 := by
  have key : ∀ n ∈ [2, 2, 2, 2, 2, 2, 2, 2, 2, 3, 13, 827], pm 16513537 24 1 5 ((16513537 - 1) / n) ≠ 1 ∧ (16513537 - 1) / n < 2 ^ 24 := by decide +kernel
  have k := key n h
  rw [pm_eq _ _ _ _ _ k.2, Nat.one_mul] at k
  exact k.1
theorem p1_pr : PR 16513537 :=
  pratt (p := 16513537) (g := 5) (fs := [2, 2, 2, 2, 2, 2, 2, 2, 2, 3, 13, 827]) (by decide) (by decide +kernel) (List.forall_mem_cons.2 ⟨p2, (List.forall_mem_cons.2 ⟨p2, (List.forall_mem_cons.2 ⟨p2, (List.forall_mem_cons.2 ⟨p2, (List.forall_mem_cons.2 ⟨p2, (List.forall_mem_cons.2 ⟨p2, (List.forall_mem_cons.2 ⟨p2, (List.forall_mem_cons.2 ⟨p2, (List.forall_mem_cons.2 ⟨p2, (List.forall_mem_cons.2 ⟨p3, (List.forall_mem_cons.2 ⟨p4, (List.forall_mem_cons.2 ⟨p5, (fun _ h => nomatch h)⟩)⟩)⟩)⟩)⟩)⟩)⟩)⟩)⟩)⟩)⟩)⟩) (pw_of (f := 24) (by decide +kernel) (by decide +kernel)) p1_ne
theorem p1 : CP 16513537 := p1_pr.cp
theorem p7 : CP 2689 := small (by decide) (by decide +kernel)
theorem p6_ne (n : Nat) (h : n ∈ [2, 2, 2, 2, 2, 2, 2, 2, 2, 2, 2, 3, 2689]) : 5 ^ ((16521217 - 1) / n) % 16521217 ≠ 1 := by
  have key : ∀ n ∈ [2, 2, 2, 2, 2, 2, 2, 2, 2, 2, 2, 3, 2689], pm 16521217 24 1 5 ((16521217 - 1) / n) ≠ 1 ∧ (16521217 - 1) / n < 2 ^ 24 := by decide +kernel
  have k := key n h
  rw [pm_eq _ _ _ _ _ k.2, Nat.one_mul] at k
  exact k.1
theorem p6_pr : PR 16521217 :=
  pratt (p := 16521217) (g := 5) (fs := [2, 2, 2, 2, 2, 2, 2, 2, 2, 2, 2, 3, 2689]) (by decide) (by decide +kernel) (List.forall_mem_cons.2 ⟨p2, (List.forall_mem_cons.2 ⟨p2, (List.forall_mem_cons.2 ⟨p2, (List.forall_mem_cons.2 ⟨p2, (List.forall_mem_cons.2 ⟨p2, (List.forall_mem_cons.2 ⟨p2, (List.forall_mem_cons.2 ⟨p2, (List.forall_mem_cons.2 ⟨p2, (List.forall_mem_cons.2 ⟨p2, (List.forall_mem_cons.2 ⟨p2, (List.forall_mem_cons.2 ⟨p2, (List.forall_mem_cons.2 ⟨p3, (List.forall_mem_cons.2 ⟨p7, (fun _ h => nomatch h)⟩)⟩)⟩)⟩)⟩)⟩)⟩)⟩)⟩)⟩)⟩)⟩)⟩) (pw_of (f := 24) (by decide +kernel) (by decide +kernel)) p6_ne
theorem p6 : CP 16521217 := p6_pr.cp
theorem p9 : CP 463 := small (by decide) (by decide +kernel)
theorem p11 : CP 89 := small (by decide) (by decide +kernel)
theorem p12 : CP 14923 := small (by decide) (by decide +kernel)
theorem p14 : CP 59 := small (by decide) (by decide +kernel)
theorem p15 : CP 1973 := small (by decide) (by decide +kernel)
theorem p18 : CP 24917 := small (by decide) (by decide +kernel)
theorem p17_ne (n : Nat) (h : n ∈ [2, 3, 24917]) : 3 ^ ((149503 - 1) / n) % 149503 ≠ 1 := by
  have key : ∀ n ∈ [2, 3, 24917], pm 149503 18 1 3 ((149503 - 1) / n) ≠ 1 ∧ (149503 - 1) / n < 2 ^ 18 := by decide +kernel
  have k := key n h
  rw [pm_eq _ _ _ _ _ k.2, Nat.one_mul] at k
  exact k.1
theorem p17_pr : PR 149503 :=
  pratt (p := 149503) (g := 3) (fs := [2, 3, 24917]) (by decide) (by decide +kernel) (List.forall_mem_cons.2 ⟨p2, (List.forall_mem_cons.2 ⟨p3, (List.forall_mem_cons.2 ⟨p18, (fun _ h => nomatch h)⟩)⟩)⟩) (pw_of (f := 18) (by decide +kernel) (by decide +kernel)) p17_ne
theorem p17 : CP 149503 := p17_pr.cp
theorem p16_ne (n : Nat) (h : n ∈ [2, 3, 149503]) : 2 ^ ((897019 - 1) / n) % 897019 ≠ 1 := by
  have key : ∀ n ∈ [2, 3, 149503], pm 897019 20 1 2 ((897019 - 1) / n) ≠ 1 ∧ (897019 - 1) / n < 2 ^ 20 := by decide +kernel
  have k := key n h
  rw [pm_eq _ _ _ _ _ k.2, Nat.one_mul] at k
  exact k.1
theorem p16_pr : PR 897019 :=
  pratt (p := 897019) (g := 2) (fs := [2, 3, 149503]) (by decide) (by decide +kernel) (List.forall_mem_cons.2 ⟨p2, (List.forall_mem_cons.2 ⟨p3, (List.forall_mem_cons.2 ⟨p17, (fun _ h => nomatch h)⟩)⟩)⟩) (pw_of (f := 20) (by decide +kernel) (by decide +kernel)) p16_ne
theorem p16 : CP 897019 := p16_pr.cp
theorem p13_ne (n : Nat) (h : n ∈ [2, 2, 59, 1973, 897019]) : 2 ^ ((417677162933 - 1) / n) % 417677162933 ≠ 1 := by
  have key : ∀ n ∈ [2, 2, 59, 1973, 897019], pm 417677162933 39 1 2 ((417677162933 - 1) / n) ≠ 1 ∧ (417677162933 - 1) / n < 2 ^ 39 := by decide +kernel
  have k := key n h
  rw [pm_eq _ _ _ _ _ k.2, Nat.one_mul] at k
  exact k.1
theorem p13_pr : PR 417677162933 :=
  pratt (p := 417677162933) (g := 2) (fs := [2, 2, 59, 1973, 897019]) (by decide) (by decide +kernel) (List.forall_mem_cons.2 ⟨p2, (List.forall_mem_cons.2 ⟨p2, (List.forall_mem_cons.2 ⟨p14, (List.forall_mem_cons.2 ⟨p15, (List.forall_mem_cons.2 ⟨p16, (fun _ h => nomatch h)⟩)⟩)⟩)⟩)⟩) (pw_of (f := 39) (by decide +kernel) (by decide +kernel)) p13_ne
theorem p13 : CP 417677162933 := p13_pr.cp
theorem p10_ne (n : Nat) (h : n ∈ [2, 2, 3, 3, 3, 3, 3, 89, 14923, 417677162933]) : 5 ^ ((539204044132271846773 - 1) / n) % 539204044132271846773 ≠ 1 := by
  have key : ∀ n ∈ [2, 2, 3, 3, 3, 3, 3, 89, 14923, 417677162933], pm 539204044132271846773 69 1 5 ((539204044132271846773 - 1) / n) ≠ 1 ∧ (539204044132271846773 - 1) / n < 2 ^ 69 := by decide +kernel
  have k := key n h
  rw [pm_eq _ _ _ _ _ k.2, Nat.one_mul] at k
  exact k.1
theorem p10_pr : PR 539204044132271846773 :=
  pratt (p := 539204044132271846773) (g := 5) (fs := [2, 2, 3, 3, 3, 3, 3, 89, 14923, 417677162933]) (by decide) (by decide +kernel) (List.forall_mem_cons.2 ⟨p2, (List.forall_mem_cons.2 ⟨p2, (List.forall_mem_cons.2 ⟨p3, (List.forall_mem_cons.2 ⟨p3, (List.forall_mem_cons.2 ⟨p3, (List.forall_mem_cons.2 ⟨p3, (List.forall_mem_cons.2 ⟨p3, (List.forall_mem_cons.2 ⟨p11, (List.forall_mem_cons.2 ⟨p12, (List.forall_mem_cons.2 ⟨p13, (fun _ h => nomatch h)⟩)⟩)⟩)⟩)⟩)⟩)⟩)⟩)⟩)⟩) (pw_of (f := 69) (by decide +kernel) (by decide +kernel)) p10_ne
theorem p10 : CP 539204044132271846773 := p10_pr.cp
theorem p20 : CP 11 := small (by decide) (by decide +kernel)
theorem p21 : CP 2531 := small (by decide) (by decide +kernel)
theorem p23 : CP 19267 := small (by decide) (by decide +kernel)
theorem p22_ne (n : Nat) (h : n ∈ [2, 3, 19267]) : 2 ^ ((115603 - 1) / n) % 115603 ≠ 1 := by
  have key : ∀ n ∈ [2, 3, 19267], pm 115603 17 1 2 ((115603 - 1) / n) ≠ 1 ∧ (115603 - 1) / n < 2 ^ 17 := by decide +kernel
  have k := key n h
  rw [pm_eq _ _ _ _ _ k.2, Nat.one_mul] at k
  exact k.1
theorem p22_pr : PR 115603 :=
  pratt (p := 115603) (g := 2) (fs := [2, 3, 19267]) (by decide) (by decide +kernel) (List.forall_mem_cons.2 ⟨p2, (List.forall_mem_cons.2 ⟨p3, (List.forall_mem_cons.2 ⟨p23, (fun _ h => nomatch h)⟩)⟩)⟩) (pw_of (f := 17) (by decide +kernel) (by decide +kernel)) p22_ne
theorem p22 : CP 115603 := p22_pr.cp
theorem p25 : CP 53 := small (by decide) (by decide +kernel)
theorem p26 : CP 3767 := small (by decide) (by decide +kernel)
theorem p24_ne (n : Nat) (h : n ∈ [2, 3, 53, 3767]) : 3 ^ ((1197907 - 1) / n) % 1197907 ≠ 1 := by
  have key : ∀ n ∈ [2, 3, 53, 3767], pm 1197907 21 1 3 ((1197907 - 1) / n) ≠ 1 ∧ (1197907 - 1) / n < 2 ^ 21 := by decide +kernel
  have k := key n h
  rw [pm_eq _ _ _ _ _ k.2, Nat.one_mul] at k
  exact k.1
theorem p24_pr : PR 1197907 :=
  pratt (p := 1197907) (g := 3) (fs := [2, 3, 53, 3767]) (by decide) (by decide +kernel) (List.forall_mem_cons.2 ⟨p2, (List.forall_mem_cons.2 ⟨p3, (List.forall_mem_cons.2 ⟨p25, (List.forall_mem_cons.2 ⟨p26, (fun _ h => nomatch h)⟩)⟩)⟩)⟩) (pw_of (f := 21) (by decide +kernel) (by decide +kernel)) p24_ne
theorem p24 : CP 1197907 := p24_pr.cp
theorem p28 : CP 7 := small (by decide) (by decide +kernel)
theorem p29 : CP 19 := small (by decide) (by decide +kernel)
theorem p32 : CP 17 := small (by decide) (by decide +kernel)
theorem p33 : CP 977 := small (by decide) (by decide +kernel)
theorem p31_ne (n : Nat) (h : n ∈ [2, 11, 17, 19, 977]) : 2 ^ ((6942563 - 1) / n) % 6942563 ≠ 1 := by
  have key : ∀ n ∈ [2, 11, 17, 19, 977], pm 6942563 23 1 2 ((6942563 - 1) / n) ≠ 1 ∧ (6942563 - 1) / n < 2 ^ 23 := by decide +kernel
  have k := key n h
  rw [pm_eq _ _ _ _ _ k.2, Nat.one_mul] at k
  exact k.1
theorem p31_pr : PR 6942563 :=
  pratt (p := 6942563) (g := 2) (fs := [2, 11, 17, 19, 977]) (by decide) (by decide +kernel) (List.forall_mem_cons.2 ⟨p2, (List.forall_mem_cons.2 ⟨p20, (List.forall_mem_cons.2 ⟨p32, (List.forall_mem_cons.2 ⟨p29, (List.forall_mem_cons.2 ⟨p33, (fun _ h => nomatch h)⟩)⟩)⟩)⟩)⟩) (pw_of (f := 23) (by decide +kernel) (by decide +kernel)) p31_ne
theorem p31 : CP 6942563 := p31_pr.cp
theorem p30_ne (n : Nat) (h : n ∈ [2, 3, 6942563]) : 2 ^ ((41655379 - 1) / n) % 41655379 ≠ 1 := by
  have key : ∀ n ∈ [2, 3, 6942563], pm 41655379 26 1 2 ((41655379 - 1) / n) ≠ 1 ∧ (41655379 - 1) / n < 2 ^ 26 := by decide +kernel
  have k := key n h
  rw [pm_eq _ _ _ _ _ k.2, Nat.one_mul] at k
  exact k.1
theorem p30_pr : PR 41655379 :=
  pratt (p := 41655379) (g := 2) (fs := [2, 3, 6942563]) (by decide) (by decide +kernel) (List.forall_mem_cons.2 ⟨p2, (List.forall_mem_cons.2 ⟨p3, (List.forall_mem_cons.2 ⟨p31, (fun _ h => nomatch h)⟩)⟩)⟩) (pw_of (f := 26) (by decide +kernel) (by decide +kernel)) p30_ne
theorem p30 : CP 41655379 := p30_pr.cp
theorem p27_ne (n : Nat) (h : n ∈ [2, 2, 7, 19, 41655379]) : 3 ^ ((22160661629 - 1) / n) % 22160661629 ≠ 1 := by
  have key : ∀ n ∈ [2, 2, 7, 19, 41655379], pm 22160661629 35 1 3 ((22160661629 - 1) / n) ≠ 1 ∧ (22160661629 - 1) / n < 2 ^ 35 := by decide +kernel
  have k := key n h
  rw [pm_eq _ _ _ _ _ k.2, Nat.one_mul] at k
  exact k.1
theorem p27_pr : PR 22160661629 :=
  pratt (p := 22160661629) (g := 3) (fs := [2, 2, 7, 19, 41655379]) (by decide) (by decide +kernel) (List.forall_mem_cons.2 ⟨p2, (List.forall_mem_cons.2 ⟨p2, (List.forall_mem_cons.2 ⟨p28, (List.forall_mem_cons.2 ⟨p29, (List.forall_mem_cons.2 ⟨p30, (fun _ h => nomatch h)⟩)⟩)⟩)⟩)⟩) (pw_of (f := 35) (by decide +kernel) (by decide +kernel)) p27_ne
theorem p27 : CP 22160661629 := p27_pr.cp
theorem p35 : CP 509 := small (by decide) (by decide +kernel)
theorem p37 : CP 41 := small (by decide) (by decide +kernel)
theorem p36_ne (n : Nat) (h : n ∈ [2, 3, 41, 41, 41]) : 3 ^ ((413527 - 1) / n) % 413527 ≠ 1 := by
  have key : ∀ n ∈ [2, 3, 41, 41, 41], pm 413527 19 1 3 ((413527 - 1) / n) ≠ 1 ∧ (413527 - 1) / n < 2 ^ 19 := by decide +kernel
  have k := key n h
  rw [pm_eq _ _ _ _ _ k.2, Nat.one_mul] at k
  exact k.1
theorem p36_pr : PR 413527 :=
  pratt (p := 413527) (g := 3) (fs := [2, 3, 41, 41, 41]) (by decide) (by decide +kernel) (List.forall_mem_cons.2 ⟨p2, (List.forall_mem_cons.2 ⟨p3, (List.forall_mem_cons.2 ⟨p37, (List.forall_mem_cons.2 ⟨p37, (List.forall_mem_cons.2 ⟨p37, (fun _ h => nomatch h)⟩)⟩)⟩)⟩)⟩) (pw_of (f := 19) (by decide +kernel) (by decide +kernel)) p36_ne
theorem p36 : CP 413527 := p36_pr.cp
theorem p39 : CP 5 := small (by decide) (by decide +kernel)
theorem p40 : CP 25741 := small (by decide) (by decide +kernel)
theorem p38_ne (n : Nat) (h : n ∈ [2, 3, 5, 25741]) : 6 ^ ((772231 - 1) / n) % 772231 ≠ 1 := by
  have key : ∀ n ∈ [2, 3, 5, 25741], pm 772231 20 1 6 ((772231 - 1) / n) ≠ 1 ∧ (772231 - 1) / n < 2 ^ 20 := by decide +kernel
  have k := key n h
  rw [pm_eq _ _ _ _ _ k.2, Nat.one_mul] at k
  exact k.1
theorem p38_pr : PR 772231 :=
  pratt (p := 772231) (g := 6) (fs := [2, 3, 5, 25741]) (by decide) (by decide +kernel) (List.forall_mem_cons.2 ⟨p2, (List.forall_mem_cons.2 ⟨p3, (List.forall_mem_cons.2 ⟨p39, (List.forall_mem_cons.2 ⟨p40, (fun _ h => nomatch h)⟩)⟩)⟩)⟩) (pw_of (f := 20) (by decide +kernel) (by decide +kernel)) p38_ne
theorem p38 : CP 772231 := p38_pr.cp
theorem p34_ne (n : Nat) (h : n ∈ [2, 509, 413527, 772231]) : 2 ^ ((325086459374267 - 1) / n) % 325086459374267 ≠ 1 := by
  have key : ∀ n ∈ [2, 509, 413527, 772231], pm 325086459374267 49 1 2 ((325086459374267 - 1) / n) ≠ 1 ∧ (325086459374267 - 1) / n < 2 ^ 49 := by decide +kernel
  have k := key n h
  rw [pm_eq _ _ _ _ _ k.2, Nat.one_mul] at k
  exact k.1
theorem p34_pr : PR 325086459374267 :=
  pratt (p := 325086459374267) (g := 2) (fs := [2, 509, 413527, 772231]) (by decide) (by decide +kernel) (List.forall_mem_cons.2 ⟨p2, (List.forall_mem_cons.2 ⟨p35, (List.forall_mem_cons.2 ⟨p36, (List.forall_mem_cons.2 ⟨p38, (fun _ h => nomatch h)⟩)⟩)⟩)⟩) (pw_of (f := 49) (by decide +kernel) (by decide +kernel)) p34_ne
theorem p34 : CP 325086459374267 := p34_pr.cp
theorem p19_ne (n : Nat) (h : n ∈ [2, 2, 3, 3, 3, 3, 11, 2531, 115603, 1197907, 22160661629, 325086459374267]) : 2 ^ ((8999194758858563409123804352480028797519453 - 1) / n) % 8999194758858563409123804352480028797519453 ≠ 1 := by
  have key : ∀ n ∈ [2, 2, 3, 3, 3, 3, 11, 2531, 115603, 1197907, 22160661629, 325086459374267], pm 8999194758858563409123804352480028797519453 143 1 2 ((8999194758858563409123804352480028797519453 - 1) / n) ≠ 1 ∧ (8999194758858563409123804352480028797519453 - 1) / n < 2 ^ 143 := by decide +kernel
  have k := key n h
  rw [pm_eq _ _ _ _ _ k.2, Nat.one_mul] at k
  exact k.1
theorem p19_pr : PR 8999194758858563409123804352480028797519453 :=
  pratt (p := 8999194758858563409123804352480028797519453) (g := 2) (fs := [2, 2, 3, 3, 3, 3, 11, 2531, 115603, 1197907, 22160661629, 325086459374267]) (by decide) (by decide +kernel) (List.forall_mem_cons.2 ⟨p2, (List.forall_mem_cons.2 ⟨p2, (List.forall_mem_cons.2 ⟨p3, (List.forall_mem_cons.2 ⟨p3, (List.forall_mem_cons.2 ⟨p3, (List.forall_mem_cons.2 ⟨p3, (List.forall_mem_cons.2 ⟨p20, (List.forall_mem_cons.2 ⟨p21, (List.forall_mem_cons.2 ⟨p22, (List.forall_mem_cons.2 ⟨p24, (List.forall_mem_cons.2 ⟨p27, (List.forall_mem_cons.2 ⟨p34, (fun _ h => nomatch h)⟩)⟩)⟩)⟩)⟩)⟩)⟩)⟩)⟩)⟩)⟩)⟩) (pw_of (f := 143) (by decide +kernel) (by decide +kernel)) p19_ne
theorem p19 : CP 8999194758858563409123804352480028797519453 := p19_pr.cp
theorem p8_ne (n : Nat) (h : n ∈ [2, 2, 2, 2, 2, 2, 2, 2, 2, 2, 2, 2, 2, 2, 2, 2, 2, 2, 2, 2, 2, 2, 2, 2, 2, 2, 2, 2, 2, 2, 2, 2, 3, 463, 539204044132271846773, 8999194758858563409123804352480028797519453]) : 5 ^ ((28948022309329048855892746252171976963363056481941560715954676764349967630337 - 1) / n) % 28948022309329048855892746252171976963363056481941560715954676764349967630337 ≠ 1 := by
  have key : ∀ n ∈ [2, 2, 2, 2, 2, 2, 2, 2, 2, 2, 2, 2, 2, 2, 2, 2, 2, 2, 2, 2, 2, 2, 2, 2, 2, 2, 2, 2, 2, 2, 2, 2, 3, 463, 539204044132271846773, 8999194758858563409123804352480028797519453], pm 28948022309329048855892746252171976963363056481941560715954676764349967630337 255 1 5 ((28948022309329048855892746252171976963363056481941560715954676764349967630337 - 1) / n) ≠ 1 ∧ (28948022309329048855892746252171976963363056481941560715954676764349967630337 - 1) / n < 2 ^ 255 := by decide +kernel
  have k := key n h
  rw [pm_eq _ _ _ _ _ k.2, Nat.one_mul] at k
  exact k.1
theorem p8_pr : PR 28948022309329048855892746252171976963363056481941560715954676764349967630337 :=
  pratt (p := 28948022309329048855892746252171976963363056481941560715954676764349967630337) (g := 5) (fs := [2, 2, 2, 2, 2, 2, 2, 2, 2, 2, 2, 2, 2, 2, 2, 2, 2, 2, 2, 2, 2, 2, 2, 2, 2, 2, 2, 2, 2, 2, 2, 2, 3, 463, 539204044132271846773, 8999194758858563409123804352480028797519453]) (by decide) (by decide +kernel) (List.forall_mem_cons.2 ⟨p2, (List.forall_mem_cons.2 ⟨p2, (List.forall_mem_cons.2 ⟨p2, (List.forall_mem_cons.2 ⟨p2, (List.forall_mem_cons.2 ⟨p2, (List.forall_mem_cons.2 ⟨p2, (List.forall_mem_cons.2 ⟨p2, (List.forall_mem_cons.2 ⟨p2, (List.forall_mem_cons.2 ⟨p2, (List.forall_mem_cons.2 ⟨p2, (List.forall_mem_cons.2 ⟨p2, (List.forall_mem_cons.2 ⟨p2, (List.forall_mem_cons.2 ⟨p2, (List.forall_mem_cons.2 ⟨p2, (List.forall_mem_cons.2 ⟨p2, (List.forall_mem_cons.2 ⟨p2, (List.forall_mem_cons.2 ⟨p2, (List.forall_mem_cons.2 ⟨p2, (List.forall_mem_cons.2 ⟨p2, (List.forall_mem_cons.2 ⟨p2, (List.forall_mem_cons.2 ⟨p2, (List.forall_mem_cons.2 ⟨p2, (List.forall_mem_cons.2 ⟨p2, (List.forall_mem_cons.2 ⟨p2, (List.forall_mem_cons.2 ⟨p2, (List.forall_mem_cons.2 ⟨p2, (List.forall_mem_cons.2 ⟨p2, (List.forall_mem_cons.2 ⟨p2, (List.forall_mem_cons.2 ⟨p2, (List.forall_mem_cons.2 ⟨p2, (List.forall_mem_cons.2 ⟨p2, (List.forall_mem_cons.2 ⟨p2, (List.forall_mem_cons.2 ⟨p3, (List.forall_mem_cons.2 ⟨p9, (List.forall_mem_cons.2 ⟨p10, (List.forall_mem_cons.2 ⟨p19, (fun _ h => nomatch h)⟩)⟩)⟩)⟩)⟩)⟩)⟩)⟩)⟩)⟩)⟩)⟩)⟩)⟩)⟩)⟩)⟩)⟩)⟩)⟩)⟩)⟩)⟩)⟩)⟩)⟩)⟩)⟩)⟩)⟩)⟩)⟩)⟩)⟩)⟩)⟩) (pw_of (f := 255) (by decide +kernel) (by decide +kernel)) p8_ne
theorem p8 : CP 28948022309329048855892746252171976963363056481941560715954676764349967630337 := p8_pr.cp
theorem p42 : CP 1709 := small (by decide) (by decide +kernel)
theorem p43 : CP 24859 := small (by decide) (by decide +kernel)
theorem p46 : CP 359 := small (by decide) (by decide +kernel)
theorem p48_ne (n : Nat) (h : n ∈ [2, 2, 17, 19, 53]) : 2 ^ ((68477 - 1) / n) % 68477 ≠ 1 := by
  have key : ∀ n ∈ [2, 2, 17, 19, 53], pm 68477 17 1 2 ((68477 - 1) / n) ≠ 1 ∧ (68477 - 1) / n < 2 ^ 17 := by decide +kernel
  have k := key n h
  rw [pm_eq _ _ _ _ _ k.2, Nat.one_mul] at k
  exact k.1
theorem p48_pr : PR 68477 :=
  pratt (p := 68477) (g := 2) (fs := [2, 2, 17, 19, 53]) (by decide) (by decide +kernel) (List.forall_mem_cons.2 ⟨p2, (List.forall_mem_cons.2 ⟨p2, (List.forall_mem_cons.2 ⟨p32, (List.forall_mem_cons.2 ⟨p29, (List.forall_mem_cons.2 ⟨p25, (fun _ h => nomatch h)⟩)⟩)⟩)⟩)⟩) (pw_of (f := 17) (by decide +kernel) (by decide +kernel)) p48_ne
theorem p48 : CP 68477 := p48_pr.cp
theorem p47_ne (n : Nat) (h : n ∈ [2, 7, 68477]) : 7 ^ ((958679 - 1) / n) % 958679 ≠ 1 := by
  have key : ∀ n ∈ [2, 7, 68477], pm 958679 20 1 7 ((958679 - 1) / n) ≠ 1 ∧ (958679 - 1) / n < 2 ^ 20 := by decide +kernel
  have k := key n h
  rw [pm_eq _ _ _ _ _ k.2, Nat.one_mul] at k
  exact k.1
theorem p47_pr : PR 958679 :=
  pratt (p := 958679) (g := 7) (fs := [2, 7, 68477]) (by decide) (by decide +kernel) (List.forall_mem_cons.2 ⟨p2, (List.forall_mem_cons.2 ⟨p28, (List.forall_mem_cons.2 ⟨p48, (fun _ h => nomatch h)⟩)⟩)⟩) (pw_of (f := 20) (by decide +kernel) (by decide +kernel)) p47_ne
theorem p47 : CP 958679 := p47_pr.cp
theorem p45_ne (n : Nat) (h : n ∈ [2, 2, 3, 359, 958679]) : 5 ^ ((4129989133 - 1) / n) % 4129989133 ≠ 1 := by
  have key : ∀ n ∈ [2, 2, 3, 359, 958679], pm 4129989133 32 1 5 ((4129989133 - 1) / n) ≠ 1 ∧ (4129989133 - 1) / n < 2 ^ 32 := by decide +kernel
  have k := key n h
  rw [pm_eq _ _ _ _ _ k.2, Nat.one_mul] at k
  exact k.1
theorem p45_pr : PR 4129989133 :=
  pratt (p := 4129989133) (g := 5) (fs := [2, 2, 3, 359, 958679]) (by decide) (by decide +kernel) (List.forall_mem_cons.2 ⟨p2, (List.forall_mem_cons.2 ⟨p2, (List.forall_mem_cons.2 ⟨p3, (List.forall_mem_cons.2 ⟨p46, (List.forall_mem_cons.2 ⟨p47, (fun _ h => nomatch h)⟩)⟩)⟩)⟩)⟩) (pw_of (f := 32) (by decide +kernel) (by decide +kernel)) p45_ne
theorem p45 : CP 4129989133 := p45_pr.cp
theorem p50 : CP 71 := small (by decide) (by decide +kernel)
theorem p55 : CP 29 := small (by decide) (by decide +kernel)
theorem p56 : CP 241 := small (by decide) (by decide +kernel)
theorem p54_ne (n : Nat) (h : n ∈ [2, 3, 3, 29, 241]) : 3 ^ ((125803 - 1) / n) % 125803 ≠ 1 := by
  have key : ∀ n ∈ [2, 3, 3, 29, 241], pm 125803 17 1 3 ((125803 - 1) / n) ≠ 1 ∧ (125803 - 1) / n < 2 ^ 17 := by decide +kernel
  have k := key n h
  rw [pm_eq _ _ _ _ _ k.2, Nat.one_mul] at k
  exact k.1
theorem p54_pr : PR 125803 :=
  pratt (p := 125803) (g := 3) (fs := [2, 3, 3, 29, 241]) (by decide) (by decide +kernel) (List.forall_mem_cons.2 ⟨p2, (List.forall_mem_cons.2 ⟨p3, (List.forall_mem_cons.2 ⟨p3, (List.forall_mem_cons.2 ⟨p55, (List.forall_mem_cons.2 ⟨p56, (fun _ h => nomatch h)⟩)⟩)⟩)⟩)⟩) (pw_of (f := 17) (by decide +kernel) (by decide +kernel)) p54_ne
theorem p54 : CP 125803 := p54_pr.cp
theorem p53_ne (n : Nat) (h : n ∈ [2, 2, 2, 2, 125803]) : 3 ^ ((2012849 - 1) / n) % 2012849 ≠ 1 := by
  have key : ∀ n ∈ [2, 2, 2, 2, 125803], pm 2012849 21 1 3 ((2012849 - 1) / n) ≠ 1 ∧ (2012849 - 1) / n < 2 ^ 21 := by decide +kernel
  have k := key n h
  rw [pm_eq _ _ _ _ _ k.2, Nat.one_mul] at k
  exact k.1
theorem p53_pr : PR 2012849 :=
  pratt (p := 2012849) (g := 3) (fs := [2, 2, 2, 2, 125803]) (by decide) (by decide +kernel) (List.forall_mem_cons.2 ⟨p2, (List.forall_mem_cons.2 ⟨p2, (List.forall_mem_cons.2 ⟨p2, (List.forall_mem_cons.2 ⟨p2, (List.forall_mem_cons.2 ⟨p54, (fun _ h => nomatch h)⟩)⟩)⟩)⟩)⟩) (pw_of (f := 21) (by decide +kernel) (by decide +kernel)) p53_ne
theorem p53 : CP 2012849 := p53_pr.cp
theorem p52_ne (n : Nat) (h : n ∈ [2, 2012849]) : 2 ^ ((4025699 - 1) / n) % 4025699 ≠ 1 := by
  have key : ∀ n ∈ [2, 2012849], pm 4025699 22 1 2 ((4025699 - 1) / n) ≠ 1 ∧ (4025699 - 1) / n < 2 ^ 22 := by decide +kernel
  have k := key n h
  rw [pm_eq _ _ _ _ _ k.2, Nat.one_mul] at k
  exact k.1
theorem p52_pr : PR 4025699 :=
  pratt (p := 4025699) (g := 2) (fs := [2, 2012849]) (by decide) (by decide +kernel) (List.forall_mem_cons.2 ⟨p2, (List.forall_mem_cons.2 ⟨p53, (fun _ h => nomatch h)⟩)⟩) (pw_of (f := 22) (by decide +kernel) (by decide +kernel)) p52_ne
theorem p52 : CP 4025699 := p52_pr.cp
theorem p51_ne (n : Nat) (h : n ∈ [2, 2, 5, 4025699]) : 2 ^ ((80513981 - 1) / n) % 80513981 ≠ 1 := by
  have key : ∀ n ∈ [2, 2, 5, 4025699], pm 80513981 27 1 2 ((80513981 - 1) / n) ≠ 1 ∧ (80513981 - 1) / n < 2 ^ 27 := by decide +kernel
  have k := key n h
  rw [pm_eq _ _ _ _ _ k.2, Nat.one_mul] at k
  exact k.1
theorem p51_pr : PR 80513981 :=
  pratt (p := 80513981) (g := 2) (fs := [2, 2, 5, 4025699]) (by decide) (by decide +kernel) (List.forall_mem_cons.2 ⟨p2, (List.forall_mem_cons.2 ⟨p2, (List.forall_mem_cons.2 ⟨p39, (List.forall_mem_cons.2 ⟨p52, (fun _ h => nomatch h)⟩)⟩)⟩)⟩) (pw_of (f := 27) (by decide +kernel) (by decide +kernel)) p51_ne
theorem p51 : CP 80513981 := p51_pr.cp
theorem p49_ne (n : Nat) (h : n ∈ [2, 3, 3, 3, 17, 71, 80513981]) : 2 ^ ((5247740253619 - 1) / n) % 5247740253619 ≠ 1 := by
  have key : ∀ n ∈ [2, 3, 3, 3, 17, 71, 80513981], pm 5247740253619 43 1 2 ((5247740253619 - 1) / n) ≠ 1 ∧ (5247740253619 - 1) / n < 2 ^ 43 := by decide +kernel
  have k := key n h
  rw [pm_eq _ _ _ _ _ k.2, Nat.one_mul] at k
  exact k.1
theorem p49_pr : PR 5247740253619 :=
  pratt (p := 5247740253619) (g := 2) (fs := [2, 3, 3, 3, 17, 71, 80513981]) (by decide) (by decide +kernel) (List.forall_mem_cons.2 ⟨p2, (List.forall_mem_cons.2 ⟨p3, (List.forall_mem_cons.2 ⟨p3, (List.forall_mem_cons.2 ⟨p3, (List.forall_mem_cons.2 ⟨p32, (List.forall_mem_cons.2 ⟨p50, (List.forall_mem_cons.2 ⟨p51, (fun _ h => nomatch h)⟩)⟩)⟩)⟩)⟩)⟩)⟩) (pw_of (f := 43) (by decide +kernel) (by decide +kernel)) p49_ne
theorem p49 : CP 5247740253619 := p49_pr.cp
theorem p44_ne (n : Nat) (h : n ∈ [2, 3, 13, 4129989133, 5247740253619]) : 2 ^ ((1690502597179744445941507 - 1) / n) % 1690502597179744445941507 ≠ 1 := by
  have key : ∀ n ∈ [2, 3, 13, 4129989133, 5247740253619], pm 1690502597179744445941507 81 1 2 ((1690502597179744445941507 - 1) / n) ≠ 1 ∧ (1690502597179744445941507 - 1) / n < 2 ^ 81 := by decide +kernel
  have k := key n h
  rw [pm_eq _ _ _ _ _ k.2, Nat.one_mul] at k
  exact k.1
theorem p44_pr : PR 1690502597179744445941507 :=
  pratt (p := 1690502597179744445941507) (g := 2) (fs := [2, 3, 13, 4129989133, 5247740253619]) (by decide) (by decide +kernel) (List.forall_mem_cons.2 ⟨p2, (List.forall_mem_cons.2 ⟨p3, (List.forall_mem_cons.2 ⟨p4, (List.forall_mem_cons.2 ⟨p45, (List.forall_mem_cons.2 ⟨p49, (fun _ h => nomatch h)⟩)⟩)⟩)⟩)⟩) (pw_of (f := 81) (by decide +kernel) (by decide +kernel)) p44_ne
theorem p44 : CP 1690502597179744445941507 := p44_pr.cp
theorem p59 : CP 173 := small (by decide) (by decide +kernel)
theorem p58_ne (n : Nat) (h : n ∈ [2, 2, 2, 3, 71, 173]) : 10 ^ ((294793 - 1) / n) % 294793 ≠ 1 := by
  have key : ∀ n ∈ [2, 2, 2, 3, 71, 173], pm 294793 19 1 10 ((294793 - 1) / n) ≠ 1 ∧ (294793 - 1) / n < 2 ^ 19 := by decide +kernel
  have k := key n h
  rw [pm_eq _ _ _ _ _ k.2, Nat.one_mul] at k
  exact k.1
theorem p58_pr : PR 294793 :=
  pratt (p := 294793) (g := 10) (fs := [2, 2, 2, 3, 71, 173]) (by decide) (by decide +kernel) (List.forall_mem_cons.2 ⟨p2, (List.forall_mem_cons.2 ⟨p2, (List.forall_mem_cons.2 ⟨p2, (List.forall_mem_cons.2 ⟨p3, (List.forall_mem_cons.2 ⟨p50, (List.forall_mem_cons.2 ⟨p59, (fun _ h => nomatch h)⟩)⟩)⟩)⟩)⟩)⟩) (pw_of (f := 19) (by decide +kernel) (by decide +kernel)) p58_ne
theorem p58 : CP 294793 := p58_pr.cp
theorem p61 : CP 2557 := small (by decide) (by decide +kernel)
theorem p60_ne (n : Nat) (h : n ∈ [2, 827, 2557]) : 13 ^ ((4229279 - 1) / n) % 4229279 ≠ 1 := by
  have key : ∀ n ∈ [2, 827, 2557], pm 4229279 23 1 13 ((4229279 - 1) / n) ≠ 1 ∧ (4229279 - 1) / n < 2 ^ 23 := by decide +kernel
  have k := key n h
  rw [pm_eq _ _ _ _ _ k.2, Nat.one_mul] at k
  exact k.1
theorem p60_pr : PR 4229279 :=
  pratt (p := 4229279) (g := 13) (fs := [2, 827, 2557]) (by decide) (by decide +kernel) (List.forall_mem_cons.2 ⟨p2, (List.forall_mem_cons.2 ⟨p5, (List.forall_mem_cons.2 ⟨p61, (fun _ h => nomatch h)⟩)⟩)⟩) (pw_of (f := 23) (by decide +kernel) (by decide +kernel)) p60_ne
theorem p60 : CP 4229279 := p60_pr.cp
theorem p64 : CP 6091 := small (by decide) (by decide +kernel)
theorem p63_ne (n : Nat) (h : n ∈ [2, 2, 2, 3, 3, 13, 6091]) : 7 ^ ((5701177 - 1) / n) % 5701177 ≠ 1 := by
  have key : ∀ n ∈ [2, 2, 2, 3, 3, 13, 6091], pm 5701177 23 1 7 ((5701177 - 1) / n) ≠ 1 ∧ (5701177 - 1) / n < 2 ^ 23 := by decide +kernel
  have k := key n h
  rw [pm_eq _ _ _ _ _ k.2, Nat.one_mul] at k
  exact k.1
theorem p63_pr : PR 5701177 :=
  pratt (p := 5701177) (g := 7) (fs := [2, 2, 2, 3, 3, 13, 6091]) (by decide) (by decide +kernel) (List.forall_mem_cons.2 ⟨p2, (List.forall_mem_cons.2 ⟨p2, (List.forall_mem_cons.2 ⟨p2, (List.forall_mem_cons.2 ⟨p3, (List.forall_mem_cons.2 ⟨p3, (List.forall_mem_cons.2 ⟨p4, (List.forall_mem_cons.2 ⟨p64, (fun _ h => nomatch h)⟩)⟩)⟩)⟩)⟩)⟩)⟩) (pw_of (f := 23) (by decide +kernel) (by decide +kernel)) p63_ne
theorem p63 : CP 5701177 := p63_pr.cp
theorem p62_ne (n : Nat) (h : n ∈ [2, 5, 7, 5701177]) : 7 ^ ((399082391 - 1) / n) % 399082391 ≠ 1 := by
  have key : ∀ n ∈ [2, 5, 7, 5701177], pm 399082391 29 1 7 ((399082391 - 1) / n) ≠ 1 ∧ (399082391 - 1) / n < 2 ^ 29 := by decide +kernel
  have k := key n h
  rw [pm_eq _ _ _ _ _ k.2, Nat.one_mul] at k
  exact k.1
theorem p62_pr : PR 399082391 :=
  pratt (p := 399082391) (g := 7) (fs := [2, 5, 7, 5701177]) (by decide) (by decide +kernel) (List.forall_mem_cons.2 ⟨p2, (List.forall_mem_cons.2 ⟨p39, (List.forall_mem_cons.2 ⟨p28, (List.forall_mem_cons.2 ⟨p63, (fun _ h => nomatch h)⟩)⟩)⟩)⟩) (pw_of (f := 29) (by decide +kernel) (by decide +kernel)) p62_ne
theorem p62 : CP 399082391 := p62_pr.cp
theorem p66 : CP 757 := small (by decide) (by decide +kernel)
theorem p67 : CP 12149 := small (by decide) (by decide +kernel)
theorem p68 : CP 31649 := small (by decide) (by decide +kernel)
theorem p65_ne (n : Nat) (h : n ∈ [2, 3, 3, 757, 12149, 31649]) : 2 ^ ((5239247429827 - 1) / n) % 5239247429827 ≠ 1 := by
  have key : ∀ n ∈ [2, 3, 3, 757, 12149, 31649], pm 5239247429827 43 1 2 ((5239247429827 - 1) / n) ≠ 1 ∧ (5239247429827 - 1) / n < 2 ^ 43 := by decide +kernel
  have k := key n h
  rw [pm_eq _ _ _ _ _ k.2, Nat.one_mul] at k
  exact k.1
theorem p65_pr : PR 5239247429827 :=
  pratt (p := 5239247429827) (g := 2) (fs := [2, 3, 3, 757, 12149, 31649]) (by decide) (by decide +kernel) (List.forall_mem_cons.2 ⟨p2, (List.forall_mem_cons.2 ⟨p3, (List.forall_mem_cons.2 ⟨p3, (List.forall_mem_cons.2 ⟨p66, (List.forall_mem_cons.2 ⟨p67, (List.forall_mem_cons.2 ⟨p68, (fun _ h => nomatch h)⟩)⟩)⟩)⟩)⟩)⟩) (pw_of (f := 43) (by decide +kernel) (by decide +kernel)) p65_ne
theorem p65 : CP 5239247429827 := p65_pr.cp
theorem p57_ne (n : Nat) (h : n ∈ [2, 2, 294793, 4229279, 399082391, 5239247429827]) : 2 ^ ((10427374428728808478656897599072717 - 1) / n) % 10427374428728808478656897599072717 ≠ 1 := by
  have key : ∀ n ∈ [2, 2, 294793, 4229279, 399082391, 5239247429827], pm 10427374428728808478656897599072717 114 1 2 ((10427374428728808478656897599072717 - 1) / n) ≠ 1 ∧ (10427374428728808478656897599072717 - 1) / n < 2 ^ 114 := by decide +kernel
  have k := key n h
  rw [pm_eq _ _ _ _ _ k.2, Nat.one_mul] at k
  exact k.1
theorem p57_pr : PR 10427374428728808478656897599072717 :=
  pratt (p := 10427374428728808478656897599072717) (g := 2) (fs := [2, 2, 294793, 4229279, 399082391, 5239247429827]) (by decide) (by decide +kernel) (List.forall_mem_cons.2 ⟨p2, (List.forall_mem_cons.2 ⟨p2, (List.forall_mem_cons.2 ⟨p58, (List.forall_mem_cons.2 ⟨p60, (List.forall_mem_cons.2 ⟨p62, (List.forall_mem_cons.2 ⟨p65, (fun _ h => nomatch h)⟩)⟩)⟩)⟩)⟩)⟩) (pw_of (f := 114) (by decide +kernel) (by decide +kernel)) p57_ne
theorem p57 : CP 10427374428728808478656897599072717 := p57_pr.cp
theorem p41_ne (n : Nat) (h : n ∈ [2, 2, 2, 2, 2, 2, 2, 2, 2, 2, 2, 2, 2, 2, 2, 2, 2, 2, 2, 2, 2, 2, 2, 2, 2, 2, 2, 2, 2, 2, 2, 2, 3, 3, 1709, 24859, 1690502597179744445941507, 10427374428728808478656897599072717]) : 5 ^ ((28948022309329048855892746252171976963363056481941647379679742748393362948097 - 1) / n) % 28948022309329048855892746252171976963363056481941647379679742748393362948097 ≠ 1 := by
  have key : ∀ n ∈ [2, 2, 2, 2, 2, 2, 2, 2, 2, 2, 2, 2, 2, 2, 2, 2, 2, 2, 2, 2, 2, 2, 2, 2, 2, 2, 2, 2, 2, 2, 2, 2, 3, 3, 1709, 24859, 1690502597179744445941507, 10427374428728808478656897599072717], pm 28948022309329048855892746252171976963363056481941647379679742748393362948097 255 1 5 ((28948022309329048855892746252171976963363056481941647379679742748393362948097 - 1) / n) ≠ 1 ∧ (28948022309329048855892746252171976963363056481941647379679742748393362948097 - 1) / n < 2 ^ 255 := by decide +kernel
  have k := key n h
  rw [pm_eq _ _ _ _ _ k.2, Nat.one_mul] at k
  exact k.1
theorem p41_pr : PR 28948022309329048855892746252171976963363056481941647379679742748393362948097 :=
  pratt (p := 28948022309329048855892746252171976963363056481941647379679742748393362948097) (g := 5) (fs := [2, 2, 2, 2, 2, 2, 2, 2, 2, 2, 2, 2, 2, 2, 2, 2, 2, 2, 2, 2, 2, 2, 2, 2, 2, 2, 2, 2, 2, 2, 2, 2, 3, 3, 1709, 24859, 1690502597179744445941507, 10427374428728808478656897599072717]) (by decide) (by decide +kernel) (List.forall_mem_cons.2 ⟨p2, (List.forall_mem_cons.2 ⟨p2, (List.forall_mem_cons.2 ⟨p2, (List.forall_mem_cons.2 ⟨p2, (List.forall_mem_cons.2 ⟨p2, (List.forall_mem_cons.2 ⟨p2, (List.forall_mem_cons.2 ⟨p2, (List.forall_mem_cons.2 ⟨p2, (List.forall_mem_cons.2 ⟨p2, (List.forall_mem_cons.2 ⟨p2, (List.forall_mem_cons.2 ⟨p2, (List.forall_mem_cons.2 ⟨p2, (List.forall_mem_cons.2 ⟨p2, (List.forall_mem_cons.2 ⟨p2, (List.forall_mem_cons.2 ⟨p2, (List.forall_mem_cons.2 ⟨p2, (List.forall_mem_cons.2 ⟨p2, (List.forall_mem_cons.2 ⟨p2, (List.forall_mem_cons.2 ⟨p2, (List.forall_mem_cons.2 ⟨p2, (List.forall_mem_cons.2 ⟨p2, (List.forall_mem_cons.2 ⟨p2, (List.forall_mem_cons.2 ⟨p2, (List.forall_mem_cons.2 ⟨p2, (List.forall_mem_cons.2 ⟨p2, (List.forall_mem_cons.2 ⟨p2, (List.forall_mem_cons.2 ⟨p2, (List.forall_mem_cons.2 ⟨p2, (List.forall_mem_cons.2 ⟨p2, (List.forall_mem_cons.2 ⟨p2, (List.forall_mem_cons.2 ⟨p2, (List.forall_mem_cons.2 ⟨p2, (List.forall_mem_cons.2 ⟨p3, (List.forall_mem_cons.2 ⟨p3, (List.forall_mem_cons.2 ⟨p42, (List.forall_mem_cons.2 ⟨p43, (List.forall_mem_cons.2 ⟨p44, (List.forall_mem_cons.2 ⟨p57, (fun _ h => nomatch h)⟩)⟩)⟩)⟩)⟩)⟩)⟩)⟩)⟩)⟩)⟩)⟩)⟩)⟩)⟩)⟩)⟩)⟩)⟩)⟩)⟩)⟩)⟩)⟩)⟩)⟩)⟩)⟩)⟩)⟩)⟩)⟩)⟩)⟩)⟩)⟩)⟩)⟩) (pw_of (f := 255) (by decide +kernel) (by decide +kernel)) p41_ne
theorem p41 : CP 28948022309329048855892746252171976963363056481941647379679742748393362948097 := p41_pr.cp
theorem fermat0 : PR 16513537 := p1_pr
theorem fermat0_ord (n : Nat) (h0 : 0 < n) (h1 : n < 16513537 - 1) : 5 ^ n % 16513537 ≠ 1 := order_of (by decide) (fs := [2, 2, 2, 2, 2, 2, 2, 2, 2, 3, 13, 827]) (by decide +kernel) (List.forall_mem_cons.2 ⟨p2, (List.forall_mem_cons.2 ⟨p2, (List.forall_mem_cons.2 ⟨p2, (List.forall_mem_cons.2 ⟨p2, (List.forall_mem_cons.2 ⟨p2, (List.forall_mem_cons.2 ⟨p2, (List.forall_mem_cons.2 ⟨p2, (List.forall_mem_cons.2 ⟨p2, (List.forall_mem_cons.2 ⟨p2, (List.forall_mem_cons.2 ⟨p3, (List.forall_mem_cons.2 ⟨p4, (List.forall_mem_cons.2 ⟨p5, (fun _ h => nomatch h)⟩)⟩)⟩)⟩)⟩)⟩)⟩)⟩)⟩)⟩)⟩)⟩) (pw_of (f := 24) (by decide +kernel) (by decide +kernel)) p1_ne n h0 h1
theorem fermat1 : PR 16521217 := p6_pr
theorem fermat1_ord (n : Nat) (h0 : 0 < n) (h1 : n < 16521217 - 1) : 5 ^ n % 16521217 ≠ 1 := order_of (by decide) (fs := [2, 2, 2, 2, 2, 2, 2, 2, 2, 2, 2, 3, 2689]) (by decide +kernel) (List.forall_mem_cons.2 ⟨p2, (List.forall_mem_cons.2 ⟨p2, (List.forall_mem_cons.2 ⟨p2, (List.forall_mem_cons.2 ⟨p2, (List.forall_mem_cons.2 ⟨p2, (List.forall_mem_cons.2 ⟨p2, (List.forall_mem_cons.2 ⟨p2, (List.forall_mem_cons.2 ⟨p2, (List.forall_mem_cons.2 ⟨p2, (List.forall_mem_cons.2 ⟨p2, (List.forall_mem_cons.2 ⟨p2, (List.forall_mem_cons.2 ⟨p3, (List.forall_mem_cons.2 ⟨p7, (fun _ h => nomatch h)⟩)⟩)⟩)⟩)⟩)⟩)⟩)⟩)⟩)⟩)⟩)⟩)⟩) (pw_of (f := 24) (by decide +kernel) (by decide +kernel)) p6_ne n h0 h1
theorem fermat2 : PR 28948022309329048855892746252171976963363056481941560715954676764349967630337 := p8_pr
theorem fermat2_ord (n : Nat) (h0 : 0 < n) (h1 : n < 28948022309329048855892746252171976963363056481941560715954676764349967630337 - 1) : 5 ^ n % 28948022309329048855892746252171976963363056481941560715954676764349967630337 ≠ 1 := order_of (by decide) (fs := [2, 2, 2, 2, 2, 2, 2, 2, 2, 2, 2, 2, 2, 2, 2, 2, 2, 2, 2, 2, 2, 2, 2, 2, 2, 2, 2, 2, 2, 2, 2, 2, 3, 463, 539204044132271846773, 8999194758858563409123804352480028797519453]) (by decide +kernel) (List.forall_mem_cons.2 ⟨p2, (List.forall_mem_cons.2 ⟨p2, (List.forall_mem_cons.2 ⟨p2, (List.forall_mem_cons.2 ⟨p2, (List.forall_mem_cons.2 ⟨p2, (List.forall_mem_cons.2 ⟨p2, (List.forall_mem_cons.2 ⟨p2, (List.forall_mem_cons.2 ⟨p2, (List.forall_mem_cons.2 ⟨p2, (List.forall_mem_cons.2 ⟨p2, (List.forall_mem_cons.2 ⟨p2, (List.forall_mem_cons.2 ⟨p2, (List.forall_mem_cons.2 ⟨p2, (List.forall_mem_cons.2 ⟨p2, (List.forall_mem_cons.2 ⟨p2, (List.forall_mem_cons.2 ⟨p2, (List.forall_mem_cons.2 ⟨p2, (List.forall_mem_cons.2 ⟨p2, (List.forall_mem_cons.2 ⟨p2, (List.forall_mem_cons.2 ⟨p2, (List.forall_mem_cons.2 ⟨p2, (List.forall_mem_cons.2 ⟨p2, (List.forall_mem_cons.2 ⟨p2, (List.forall_mem_cons.2 ⟨p2, (List.forall_mem_cons.2 ⟨p2, (List.forall_mem_cons.2 ⟨p2, (List.forall_mem_cons.2 ⟨p2, (List.forall_mem_cons.2 ⟨p2, (List.forall_mem_cons.2 ⟨p2, (List.forall_mem_cons.2 ⟨p2, (List.forall_mem_cons.2 ⟨p2, (List.forall_mem_cons.2 ⟨p2, (List.forall_mem_cons.2 ⟨p3, (List.forall_mem_cons.2 ⟨p9, (List.forall_mem_cons.2 ⟨p10, (List.forall_mem_cons.2 ⟨p19, (fun _ h => nomatch h)⟩)⟩)⟩)⟩)⟩)⟩)⟩)⟩)⟩)⟩)⟩)⟩)⟩)⟩)⟩)⟩)⟩)⟩)⟩)⟩)⟩)⟩)⟩)⟩)⟩)⟩)⟩)⟩)⟩)⟩)⟩)⟩)⟩)⟩)⟩)⟩) (pw_of (f := 255) (by decide +kernel) (by decide +kernel)) p8_ne n h0 h1
theorem fermat3 : PR 28948022309329048855892746252171976963363056481941647379679742748393362948097 := p41_pr
theorem fermat3_ord (n : Nat) (h0 : 0 < n) (h1 : n < 28948022309329048855892746252171976963363056481941647379679742748393362948097 - 1) : 5 ^ n % 28948022309329048855892746252171976963363056481941647379679742748393362948097 ≠ 1 := order_of (by decide) (fs := [2, 2, 2, 2, 2, 2, 2, 2, 2, 2, 2, 2, 2, 2, 2, 2, 2, 2, 2, 2, 2, 2, 2, 2, 2, 2, 2, 2, 2, 2, 2, 2, 3, 3, 1709, 24859, 1690502597179744445941507, 10427374428728808478656897599072717]) (by decide +kernel) (List.forall_mem_cons.2 ⟨p2, (List.forall_mem_cons.2 ⟨p2, (List.forall_mem_cons.2 ⟨p2, (List.forall_mem_cons.2 ⟨p2, (List.forall_mem_cons.2 ⟨p2, (List.forall_mem_cons.2 ⟨p2, (List.forall_mem_cons.2 ⟨p2, (List.forall_mem_cons.2 ⟨p2, (List.forall_mem_cons.2 ⟨p2, (List.forall_mem_cons.2 ⟨p2, (List.forall_mem_cons.2 ⟨p2, (List.forall_mem_cons.2 ⟨p2, (List.forall_mem_cons.2 ⟨p2, (List.forall_mem_cons.2 ⟨p2, (List.forall_mem_cons.2 ⟨p2, (List.forall_mem_cons.2 ⟨p2, (List.forall_mem_cons.2 ⟨p2, (List.forall_mem_cons.2 ⟨p2, (List.forall_mem_cons.2 ⟨p2, (List.forall_mem_cons.2 ⟨p2, (List.forall_mem_cons.2 ⟨p2, (List.forall_mem_cons.2 ⟨p2, (List.forall_mem_cons.2 ⟨p2, (List.forall_mem_cons.2 ⟨p2, (List.forall_mem_cons.2 ⟨p2, (List.forall_mem_cons.2 ⟨p2, (List.forall_mem_cons.2 ⟨p2, (List.forall_mem_cons.2 ⟨p2, (List.forall_mem_cons.2 ⟨p2, (List.forall_mem_cons.2 ⟨p2, (List.forall_mem_cons.2 ⟨p2, (List.forall_mem_cons.2 ⟨p2, (List.forall_mem_cons.2 ⟨p3, (List.forall_mem_cons.2 ⟨p3, (List.forall_mem_cons.2 ⟨p42, (List.forall_mem_cons.2 ⟨p43, (List.forall_mem_cons.2 ⟨p44, (List.forall_mem_cons.2 ⟨p57, (fun _ h => nomatch h)⟩)⟩)⟩)⟩)⟩)⟩)⟩)⟩)⟩)⟩)⟩)⟩)⟩)⟩)⟩)⟩)⟩)⟩)⟩)⟩)⟩)⟩)⟩)⟩)⟩)⟩)⟩)⟩)⟩)⟩)⟩)⟩)⟩)⟩)⟩)⟩)⟩)⟩) (pw_of (f := 255) (by decide +kernel) (by decide +kernel)) p41_ne n h0 h1
end Go.Num
