/- Part 1 of a proof in parts: what the code of these packages does, and plain facts about it (LawE). No condition of its own. -/
import Derived.Test.YtmigbgfgnhkmnaaGreatDoorZx13
/- Package aviarylaw18: PartKnown, walked: a closed statement: each call's answer is reckoned from the plain data. -/
namespace Go.Proofs.YtmigbgfgnhkmnaaGreatDoor
open Go.RowKit Go.Av Go.Maps Go.Sort

attribute [local go_sem ↓] Go.wp_at_zero Go.wp_at_succ
attribute [local go_sem] run_makeMap

variable {w w' w0 : World} {pb : Nat} {P : PartD} {N : Nat}

theorem lClosed (st : LawSt w0 pb P w) (sess : Int) (hi : i64 sess) : Calls Tryz.prog 22 #[.pointer (some ⟨pb, 0, none⟩), .int .i64 sess] w fun e w' => e = .returned (.bool (isIn sess P.closed)) ∧ w = w' := by
  obtain ⟨A, h1, h2, h3⟩ := st; exact closed_any sess w h1 hi
theorem lTree (st : LawSt w0 pb P w) (ho : PartOk N P) : Calls Tryz.prog 23 #[.pointer (some ⟨pb, 0, none⟩)] w fun e w' => ∃ tp mp nb', e = .returned (.pointer (some ⟨tp, 0, none⟩)) ∧ TreeIn w' tp mp nb' P.tree ∧ Pu w w' := by
  obtain ⟨A, h1, h2, h3⟩ := st
  refine (treeP_any w h1 ho.tree).mono ?_
  rintro e w' ⟨nb', he, ht, hp, _⟩
  exact ⟨_, _, nb', he, ht, hp⟩
theorem SlO.two (w : World) (o q : OpD) : SlO 50 (w.alloc (.cells #[.int .i64 o.kind, .string (mkB o.path), .string (mkB o.data), .int .i64 o.version, .int .i64 o.flags, .int .i64 q.kind, .string (mkB q.path), .string (mkB q.data), .int .i64 q.version, .int .i64 q.flags] 50)) (.slice (some ⟨w.heap.size, 0, none⟩) 2 2) [o, q] :=
  Sl.of_blk (cs := ocells [o, q]) (fr := (0, 0)) (heap_alloc_new w _) rfl

def kOA : OpD := ⟨1, [47, 97], [], 0, 0⟩
def kOXY : OpD := ⟨1, [47, 120, 47, 121], [], 0, 0⟩
def kOB : OpD := ⟨1, [47, 98], [], 0, 0⟩
def kOC : OpD := ⟨1, [47, 99], [], 0, 1⟩
def kOD : OpD := ⟨1, [47, 100], [], 0, 0⟩
def kOE : OpD := ⟨1, [47, 101], [], 0, 0⟩
def kOF : OpD := ⟨1, [47, 102], [], 0, 0⟩
theorem i64_of {n : Int} (h : (Lit.int .i64 n).wf = true) : i64 n := h
def K0 : PartD := newP 2
theorem okK0 : PartOk 0 K0 := newP_ok (by omega) (by omega)
def K1 := prepareP K0 0 1 [kOA]
theorem okK1 : PartOk 1 K1.1 := prepareP_ok okK0 (by omega) 0 1 _ (i64_of rfl)
theorem k1a : K1.2.1 = 1 := by kernel_rfl
theorem k1b : K1.2.2 = -1 := by kernel_rfl
def K2 := prepareP K1.1 3 1 []
theorem okK2 : PartOk 2 K2.1 := prepareP_ok okK1 (by omega) 3 1 _ (i64_of rfl)
theorem k2a : K2.2.1 = 1 := by kernel_rfl
theorem k2b : K2.2.2 = -1 := by kernel_rfl
def K3 := prepareP K2.1 1 1 [kOA, kOXY]
theorem okK3 : PartOk 3 K3.1 := prepareP_ok okK2 (by omega) 1 1 _ (i64_of rfl)
theorem k3a : K3.2.1 = 4 := by kernel_rfl
theorem k3b : K3.2.2 = 1 := by kernel_rfl
def K4 := prepareP K3.1 1 1 [kOB]
theorem okK4 : PartOk 4 K4.1 := prepareP_ok okK3 (by omega) 1 1 _ (i64_of rfl)
theorem k4a : K4.2.1 = 1 := by kernel_rfl
theorem k4b : K4.2.2 = -1 := by kernel_rfl
def K5 := decideP K4.1 1 true
theorem okK5 : PartOk 5 K5.1 := decideP_ok okK4 1 true
theorem k5a : K5.2.2 = 0 := by kernel_rfl
theorem k5l : K5.2.1.length = 0 := by kernel_rfl
def K6 := prepareP K5.1 1 1 [kOB]
theorem okK6 : PartOk 6 K6.1 := prepareP_ok okK5 (by omega) 1 1 _ (i64_of rfl)
theorem k6a : K6.2.1 = 1 := by kernel_rfl
theorem k6b : K6.2.2 = -1 := by kernel_rfl
def K7 := decideP K6.1 1 true
theorem okK7 : PartOk 7 K7.1 := decideP_ok okK6 1 true
theorem k7a : K7.2.2 = 4 := by kernel_rfl
theorem k7l : K7.2.1.length = 0 := by kernel_rfl
def K8 := prepareP K7.1 2 5 [kOC]
theorem okK8 : PartOk 8 K8.1 := prepareP_ok okK7 (by omega) 2 5 _ (i64_of rfl)
theorem k8a : K8.2.1 = 0 := by kernel_rfl
theorem k8b : K8.2.2 = -1 := by kernel_rfl
def K9 := localP K8.1 ⟨1, 1, [kOD, kOE]⟩
theorem okK9 : PartOk 9 K9.1 := localP_ok okK8 _
theorem k9a : K9.2.err = 12 := by kernel_rfl
theorem k9b : K9.2.place = 0 := by kernel_rfl
def K10 := closeP K9.1 4 5
theorem okK10 : PartOk 10 K10.1 := closeP_ok okK9 (by omega) 4 5 (i64_of rfl)
theorem k10a : K10.2.1 = 12 := by kernel_rfl
theorem k10b : K10.2.2 = -1 := by kernel_rfl
def K11 := decideP K10.1 2 true
theorem okK11 : PartOk 11 K11.1 := decideP_ok okK10 2 true
theorem k11a : K11.2.2 = 0 := by kernel_rfl
theorem k11l : K11.2.1.length = 1 := by kernel_rfl
def K12 := closeP K11.1 4 5
theorem okK12 : PartOk 12 K12.1 := closeP_ok okK11 (by omega) 4 5 (i64_of rfl)
theorem k12a : K12.2.1 = 0 := by kernel_rfl
theorem k12b : K12.2.2 = -1 := by kernel_rfl
def K13 := localP K12.1 ⟨5, 1, [kOF]⟩
theorem okK13 : PartOk 13 K13.1 := localP_ok okK12 _
theorem k13a : K13.2.err = 12 := by kernel_rfl
theorem k13b : K13.2.place = -1 := by kernel_rfl
def K14 := decideP K13.1 4 true
theorem okK14 : PartOk 14 K14.1 := decideP_ok okK13 4 true
theorem k14a : K14.2.2 = 0 := by kernel_rfl
theorem k14l : K14.2.1.length = 0 := by kernel_rfl
def K15 := localP K14.1 ⟨5, 1, [kOF]⟩
theorem okK15 : PartOk 15 K15.1 := localP_ok okK14 _
theorem k15a : K15.2.err = 11 := by kernel_rfl
theorem k15b : K15.2.place = -1 := by kernel_rfl
def K16 := closeP K15.1 6 5
theorem okK16 : PartOk 16 K16.1 := closeP_ok okK15 (by omega) 6 5 (i64_of rfl)
theorem k16a : K16.2.1 = 11 := by kernel_rfl
theorem k16b : K16.2.2 = -1 := by kernel_rfl
theorem kEndC : isIn 5 K16.1.closed = true := by kernel_rfl
theorem kEndT : K16.1.tree.nodes.length = 0 := by kernel_rfl
theorem kW : wantedP K3.1 = 0 := by kernel_rfl
theorem kL : K3.1.locks.length = 2 := by kernel_rfl


set_option maxHeartbeats 8000000 in
set_option maxRecDepth 100000 in
theorem knownP_any (w : World) (hg : Gl w) :
    Calls Tryz.prog 5 #[] w fun e w' => e = .returned (.bool true) ∧ Pu w w' := by
  have Hg := Lib.hid hg
  clear hg
  go_enter Tryz.func5, Tryz.ntmps5
  go_wp2_with fail
  refine (awake_any _ Hg.out).mono ?_; rintro e w1 ⟨rfl, hp⟩; have HP1 := Lib.hid hp; clear hp
  go_wp2_with fail
  refine (newP_bad 0 _ (by omega)).mono ?_; rintro e w2 ⟨rfl, rfl⟩
  go_wp2_with fail
  refine (lNew (w0 := w) 2 _ (by omega) (by omega) HP1.out).mono ?_; rintro e w3 ⟨pb, rfl, st, hp⟩; have S0 := Lib.hid (show LawSt w pb K0 w3 from st); clear st hp
  go_wp2_with fail
  refine (made_any [47, 97] 0 _).mono ?_; rintro e w4 ⟨rfl, hp⟩
  have Tw4 := Lib.hid (S0.out.pu hp)
  clear hp
  have Vw4 := Lib.hid (SlO.one w4 kOA)
  have Uw4 := Lib.hid (Tw4.out.pu (pu_alloc w4 (.cells #[.int .i64 1, .string (mkB [47, 97]), .string (mkB []), .int .i64 0, .int .i64 0] 50)))
  go_wp2_with fail
  refine (lPrep Uw4.out okK0 (by omega) Hg.out 0 1 [kOA] _ (.inr Vw4.out) (by decide) (i64_of rfl) (i64_of rfl)).mono ?_; rintro e w5 ⟨he, st, kk⟩; have he' : e = .returned (.tuple #[.int .i64 K1.2.1, .int .i64 K1.2.2]) := he; rw [k1a, k1b] at he'; subst he'
  have Sw5 := Lib.hid (show LawSt w pb K1.1 w5 from st)
  clear st kk he
  go_wp2_with fail
  refine (lPrep Sw5.out okK1 (by omega) Hg.out 3 1 [] _ (.inl (.inl ⟨rfl, none, 0, rfl⟩)) (by decide) (i64_of rfl) (i64_of rfl)).mono ?_; rintro e w6 ⟨he, st, kk⟩; have he' : e = .returned (.tuple #[.int .i64 K2.2.1, .int .i64 K2.2.2]) := he; rw [k2a, k2b] at he'; subst he'
  have Sw6 := Lib.hid (show LawSt w pb K2.1 w6 from st)
  clear st kk he
  go_wp2_with fail
  refine (made_any [47, 97] 0 _).mono ?_; rintro e w7 ⟨rfl, hp⟩
  have Tw7 := Lib.hid (Sw6.out.pu hp)
  clear hp
  go_wp2_with fail
  refine (made_any [47, 120, 47, 121] 0 _).mono ?_; rintro e w8 ⟨rfl, hp⟩
  have Tw8 := Lib.hid (Tw7.out.pu hp)
  clear hp
  have Vw8 := Lib.hid (SlO.two w8 kOA kOXY)
  have Uw8 := Lib.hid (Tw8.out.pu (pu_alloc w8 (.cells #[.int .i64 1, .string (mkB [47, 97]), .string (mkB []), .int .i64 0, .int .i64 0, .int .i64 1, .string (mkB [47, 120, 47, 121]), .string (mkB []), .int .i64 0, .int .i64 0] 50)))
  go_wp2_with fail
  refine (lPrep Uw8.out okK2 (by omega) Hg.out 1 1 [kOA, kOXY] _ (.inr Vw8.out) (by decide) (i64_of rfl) (i64_of rfl)).mono ?_; rintro e w9 ⟨he, st, kk⟩; have he' : e = .returned (.tuple #[.int .i64 K3.2.1, .int .i64 K3.2.2]) := he; rw [k3a, k3b] at he'; subst he'
  have Sw9 := Lib.hid (show LawSt w pb K3.1 w9 from st)
  clear st kk he
  go_wp2_with fail
  refine (lWanted Sw9.out okK3 (by omega)).mono ?_; rw [kW]; rintro e w10 ⟨rfl, hp⟩; have Tw10 := Lib.hid (Sw9.out.pu hp); clear hp
  go_wp2_with fail
  refine (lLocks Tw10.out).mono ?_; rw [kL]; rintro e w11 ⟨rfl, rfl⟩
  go_wp2_with fail
  refine (made_any [47, 98] 0 _).mono ?_; rintro e w12 ⟨rfl, hp⟩
  have Tw12 := Lib.hid (Tw10.out.pu hp)
  clear hp
  have Vw12 := Lib.hid (SlO.one w12 kOB)
  have Uw12 := Lib.hid (Tw12.out.pu (pu_alloc w12 (.cells #[.int .i64 1, .string (mkB [47, 98]), .string (mkB []), .int .i64 0, .int .i64 0] 50)))
  go_wp2_with fail
  refine (lPrep Uw12.out okK3 (by omega) Hg.out 1 1 [kOB] _ (.inr Vw12.out) (by decide) (i64_of rfl) (i64_of rfl)).mono ?_; rintro e w13 ⟨he, st, kk⟩; have he' : e = .returned (.tuple #[.int .i64 K4.2.1, .int .i64 K4.2.2]) := he; rw [k4a, k4b] at he'; subst he'
  have Sw13 := Lib.hid (show LawSt w pb K4.1 w13 from st)
  clear st kk he
  go_wp2_with fail
  refine (lDec Sw13.out okK4 (by omega) Hg.out 1 true (i64_of rfl)).mono ?_; rintro e w14 ⟨rv, he, hr, st, kk⟩; have he' : e = .returned (.tuple #[rv, .int .i64 K5.2.2]) := he; rw [k5a] at he'; subst he'; obtain ⟨raw14, rcw14, hrv⟩ := hr.len; have hrv' : rv = .slice raw14 K5.2.1.length rcw14 := hrv; rw [k5l] at hrv'; subst hrv'; clear hr hrv
  have Sw14 := Lib.hid (show LawSt w pb K5.1 w14 from st)
  clear st kk he
  go_wp2_with fail
  refine (made_any [47, 98] 0 _).mono ?_; rintro e w15 ⟨rfl, hp⟩
  have Tw15 := Lib.hid (Sw14.out.pu hp)
  clear hp
  have Vw15 := Lib.hid (SlO.one w15 kOB)
  have Uw15 := Lib.hid (Tw15.out.pu (pu_alloc w15 (.cells #[.int .i64 1, .string (mkB [47, 98]), .string (mkB []), .int .i64 0, .int .i64 0] 50)))
  go_wp2_with fail
  refine (lPrep Uw15.out okK5 (by omega) Hg.out 1 1 [kOB] _ (.inr Vw15.out) (by decide) (i64_of rfl) (i64_of rfl)).mono ?_; rintro e w16 ⟨he, st, kk⟩; have he' : e = .returned (.tuple #[.int .i64 K6.2.1, .int .i64 K6.2.2]) := he; rw [k6a, k6b] at he'; subst he'
  have Sw16 := Lib.hid (show LawSt w pb K6.1 w16 from st)
  clear st kk he
  go_wp2_with fail
  refine (lDec Sw16.out okK6 (by omega) Hg.out 1 true (i64_of rfl)).mono ?_; rintro e w17 ⟨rv, he, hr, st, kk⟩; have he' : e = .returned (.tuple #[rv, .int .i64 K7.2.2]) := he; rw [k7a] at he'; subst he'; obtain ⟨raw17, rcw17, hrv⟩ := hr.len; have hrv' : rv = .slice raw17 K7.2.1.length rcw17 := hrv; rw [k7l] at hrv'; subst hrv'; clear hr hrv
  have Sw17 := Lib.hid (show LawSt w pb K7.1 w17 from st)
  clear st kk he
  go_wp2_with fail
  refine (made_any [47, 99] 1 _).mono ?_; rintro e w18 ⟨rfl, hp⟩
  have Tw18 := Lib.hid (Sw17.out.pu hp)
  clear hp
  have Vw18 := Lib.hid (SlO.one w18 kOC)
  have Uw18 := Lib.hid (Tw18.out.pu (pu_alloc w18 (.cells #[.int .i64 1, .string (mkB [47, 99]), .string (mkB []), .int .i64 0, .int .i64 1] 50)))
  go_wp2_with fail
  refine (lPrep Uw18.out okK7 (by omega) Hg.out 2 5 [kOC] _ (.inr Vw18.out) (by decide) (i64_of rfl) (i64_of rfl)).mono ?_; rintro e w19 ⟨he, st, kk⟩; have he' : e = .returned (.tuple #[.int .i64 K8.2.1, .int .i64 K8.2.2]) := he; rw [k8a, k8b] at he'; subst he'
  have Sw19 := Lib.hid (show LawSt w pb K8.1 w19 from st)
  clear st kk he
  go_wp2_with fail
  refine (made_any [47, 100] 0 _).mono ?_; rintro e w20 ⟨rfl, hp⟩
  have Tw20 := Lib.hid (Sw19.out.pu hp)
  clear hp
  go_wp2_with fail
  refine (made_any [47, 101] 0 _).mono ?_; rintro e w21 ⟨rfl, hp⟩
  have Tw21 := Lib.hid (Tw20.out.pu hp)
  clear hp
  have Vw21 := Lib.hid (SlO.two w21 kOD kOE)
  have Uw21 := Lib.hid (Tw21.out.pu (pu_alloc w21 (.cells #[.int .i64 1, .string (mkB [47, 100]), .string (mkB []), .int .i64 0, .int .i64 0, .int .i64 1, .string (mkB [47, 101]), .string (mkB []), .int .i64 0, .int .i64 0] 50)))
  go_wp2_with fail
  refine (lLocal Uw21.out okK8 (by omega) Hg.out ⟨1, 1, [kOD, kOE]⟩ _ (.inr Vw21.out) (by decide) (i64_of rfl)).mono ?_; rintro e w22 ⟨rv, rfl, hr, st, kk⟩; obtain ⟨raw22, rcw22, rfl⟩ := hr.len; clear hr
  have Sw22 := Lib.hid (show LawSt w pb K9.1 w22 from st)
  clear st kk
  have Bi := Lib.hid (al1 w22 (.cells (repCells K9.2 (.slice raw22 K9.2.results.length rcw22)).toArray 34))
  have Uw22 := Lib.hid (Sw22.out.pu (pu_alloc w22 (.cells (repCells K9.2 (.slice raw22 K9.2.results.length rcw22)).toArray 34)))
  go_wp2_with fail
  refine (lClose Uw22.out okK9 (by omega) Hg.out 4 5 (i64_of rfl) (i64_of rfl)).mono ?_; rintro e w23 ⟨he, st, kk⟩; have he' : e = .returned (.tuple #[.int .i64 K10.2.1, .int .i64 K10.2.2]) := he; rw [k10a, k10b] at he'; subst he'
  have Sw23 := Lib.hid (show LawSt w pb K10.1 w23 from st)
  have Bi := Lib.hid (kk.2 _ _ _ _ Bi.out (by decide))
  clear st kk he
  go_wp2_with fail
  refine (lDec Sw23.out okK10 (by omega) Hg.out 2 true (i64_of rfl)).mono ?_; rintro e w24 ⟨rv, he, hr, st, kk⟩; have he' : e = .returned (.tuple #[rv, .int .i64 K11.2.2]) := he; rw [k11a] at he'; subst he'; obtain ⟨raw24, rcw24, hrv⟩ := hr.len; have hrv' : rv = .slice raw24 K11.2.1.length rcw24 := hrv; rw [k11l] at hrv'; subst hrv'; clear hr hrv
  have Sw24 := Lib.hid (show LawSt w pb K11.1 w24 from st)
  have Bi := Lib.hid (kk.2 _ _ _ _ Bi.out (by decide))
  clear st kk he
  go_wp2_with fail
  refine (lClose Sw24.out okK11 (by omega) Hg.out 4 5 (i64_of rfl) (i64_of rfl)).mono ?_; rintro e w25 ⟨he, st, kk⟩; have he' : e = .returned (.tuple #[.int .i64 K12.2.1, .int .i64 K12.2.2]) := he; rw [k12a, k12b] at he'; subst he'
  have Sw25 := Lib.hid (show LawSt w pb K12.1 w25 from st)
  have Bi := Lib.hid (kk.2 _ _ _ _ Bi.out (by decide))
  clear st kk he
  go_wp2_with fail
  refine (made_any [47, 102] 0 _).mono ?_; rintro e w26 ⟨rfl, hp⟩
  have Tw26 := Lib.hid (Sw25.out.pu hp)
  have Bi := Lib.hid ((hp.block _ (lt_of_blk Bi.out)).trans Bi.out)
  clear hp
  have Vw26 := Lib.hid (SlO.one w26 kOF)
  have Uw26 := Lib.hid (Tw26.out.pu (pu_alloc w26 (.cells #[.int .i64 1, .string (mkB [47, 102]), .string (mkB []), .int .i64 0, .int .i64 0] 50)))
  have Bi := Lib.hid (al_old w26 (.cells #[.int .i64 1, .string (mkB [47, 102]), .string (mkB []), .int .i64 0, .int .i64 0] 50) Bi.out)
  go_wp2_with fail
  refine (lLocal Uw26.out okK12 (by omega) Hg.out ⟨5, 1, [kOF]⟩ _ (.inr Vw26.out) (by decide) (i64_of rfl)).mono ?_; rintro e w27 ⟨rv, rfl, hr, st, kk⟩; obtain ⟨raw27, rcw27, rfl⟩ := hr.len; clear hr
  have Sw27 := Lib.hid (show LawSt w pb K13.1 w27 from st)
  have Bi := Lib.hid (kk.2 _ _ _ _ Bi.out (by decide))
  clear st kk
  have Bi := Lib.hid (al_old w27 (.cells (repCells K13.2 (.slice raw27 K13.2.results.length rcw27)).toArray 34) Bi.out)
  have Bn := Lib.hid (al1 w27 (.cells (repCells K13.2 (.slice raw27 K13.2.results.length rcw27)).toArray 34))
  have Uw27 := Lib.hid (Sw27.out.pu (pu_alloc w27 (.cells (repCells K13.2 (.slice raw27 K13.2.results.length rcw27)).toArray 34)))
  go_wp2_with fail
  refine (lDec Uw27.out okK13 (by omega) Hg.out 4 true (i64_of rfl)).mono ?_; rintro e w28 ⟨rv, he, hr, st, kk⟩; have he' : e = .returned (.tuple #[rv, .int .i64 K14.2.2]) := he; rw [k14a] at he'; subst he'; obtain ⟨raw28, rcw28, hrv⟩ := hr.len; have hrv' : rv = .slice raw28 K14.2.1.length rcw28 := hrv; rw [k14l] at hrv'; subst hrv'; clear hr hrv
  have Sw28 := Lib.hid (show LawSt w pb K14.1 w28 from st)
  have Bi := Lib.hid (kk.2 _ _ _ _ Bi.out (by decide))
  have Bn := Lib.hid (kk.2 _ _ _ _ Bn.out (by decide))
  clear st kk he
  go_wp2_with fail
  refine (made_any [47, 102] 0 _).mono ?_; rintro e w29 ⟨rfl, hp⟩
  have Tw29 := Lib.hid (Sw28.out.pu hp)
  have Bi := Lib.hid ((hp.block _ (lt_of_blk Bi.out)).trans Bi.out)
  have Bn := Lib.hid ((hp.block _ (lt_of_blk Bn.out)).trans Bn.out)
  clear hp
  have Vw29 := Lib.hid (SlO.one w29 kOF)
  have Uw29 := Lib.hid (Tw29.out.pu (pu_alloc w29 (.cells #[.int .i64 1, .string (mkB [47, 102]), .string (mkB []), .int .i64 0, .int .i64 0] 50)))
  have Bi := Lib.hid (al_old w29 (.cells #[.int .i64 1, .string (mkB [47, 102]), .string (mkB []), .int .i64 0, .int .i64 0] 50) Bi.out)
  have Bn := Lib.hid (al_old w29 (.cells #[.int .i64 1, .string (mkB [47, 102]), .string (mkB []), .int .i64 0, .int .i64 0] 50) Bn.out)
  go_wp2_with fail
  refine (lLocal Uw29.out okK14 (by omega) Hg.out ⟨5, 1, [kOF]⟩ _ (.inr Vw29.out) (by decide) (i64_of rfl)).mono ?_; rintro e w30 ⟨rv, rfl, hr, st, kk⟩; obtain ⟨raw30, rcw30, rfl⟩ := hr.len; clear hr
  have Sw30 := Lib.hid (show LawSt w pb K15.1 w30 from st)
  have Bi := Lib.hid (kk.2 _ _ _ _ Bi.out (by decide))
  have Bn := Lib.hid (kk.2 _ _ _ _ Bn.out (by decide))
  clear st kk
  have Bi := Lib.hid (al_old w30 (.cells (repCells K15.2 (.slice raw30 K15.2.results.length rcw30)).toArray 34) Bi.out)
  have Bn := Lib.hid (al_old w30 (.cells (repCells K15.2 (.slice raw30 K15.2.results.length rcw30)).toArray 34) Bn.out)
  have Bo := Lib.hid (al1 w30 (.cells (repCells K15.2 (.slice raw30 K15.2.results.length rcw30)).toArray 34))
  have Uw30 := Lib.hid (Sw30.out.pu (pu_alloc w30 (.cells (repCells K15.2 (.slice raw30 K15.2.results.length rcw30)).toArray 34)))
  go_wp2_with fail
  refine (lClose Uw30.out okK15 (by omega) Hg.out 6 5 (i64_of rfl) (i64_of rfl)).mono ?_; rintro e w31 ⟨he, st, kk⟩; have he' : e = .returned (.tuple #[.int .i64 K16.2.1, .int .i64 K16.2.2]) := he; rw [k16a, k16b] at he'; subst he'
  have Sw31 := Lib.hid (show LawSt w pb K16.1 w31 from st)
  have Bi := Lib.hid (kk.2 _ _ _ _ Bi.out (by decide))
  have Bn := Lib.hid (kk.2 _ _ _ _ Bn.out (by decide))
  have Bo := Lib.hid (kk.2 _ _ _ _ Bo.out (by decide))
  clear st kk he
  have xi2 := cell_of_blk (o := 2) Bi.out; have xi3 := cell_of_blk (o := 3) Bi.out; have xi4 := cell_of_blk (o := 4) Bi.out
  simp only [repCells, k9a, k9b] at xi2 xi3 xi4
  have li := lt_of_blk Bi.out
  have xn2 := cell_of_blk (o := 2) Bn.out; have xn3 := cell_of_blk (o := 3) Bn.out; have xn4 := cell_of_blk (o := 4) Bn.out
  simp only [repCells, k13a, k13b] at xn2 xn3 xn4
  have ln := lt_of_blk Bn.out
  have xo2 := cell_of_blk (o := 2) Bo.out; have xo3 := cell_of_blk (o := 3) Bo.out; have xo4 := cell_of_blk (o := 4) Bo.out
  simp only [repCells, k15a, k15b] at xo2 xo3 xo4
  have lo := lt_of_blk Bo.out
  go_wp2_with (first
    | (go_at_call 22; refine (lClosed Sw31.out 5 (i64_of rfl)).mono ?_; rw [kEndC]; rintro e wC ⟨rfl, rfl⟩)
    | (go_at_call 23; refine (lTree Sw31.out okK16).mono ?_; rintro e wT ⟨tp, mp, nb', rfl, ht, hp⟩; have HT := Lib.hid ht; have HPT := Lib.hid hp; clear ht hp)
    | (go_at_call 24; refine (lenT_any _ HT.out).mono ?_; rw [kEndT]; rintro e wL ⟨rfl, rfl⟩))
  go_ret
  exact ⟨rfl, Sw31.out.base.tr HPT.out⟩

end Go.Proofs.YtmigbgfgnhkmnaaGreatDoor
