/- Part 13 of a proof in parts: what the code of these packages does, and plain facts about it (LawC). No condition of its own. -/
import Derived.Test.YtmigbgfgnhkmnaaGreatDoorZx12
/- Package aviarylaw18: PartZxids, walked. -/
namespace Go.Av
structure ActD where
  op : Int
  id : Int
  sess : Int
  ops : List OpD
  yes : Bool
  deriving Inhabited
def ActD.cells (a : ActD) (v : Value) : List Value := [.int .i64 a.op, .int .i64 a.id, .int .i64 a.sess, v, .bool a.yes]
def acells (zs : List (ActD × Value)) : List Value := zs.flatMap fun z => z.1.cells z.2
theorem acells_len (zs : List (ActD × Value)) : (acells zs).length = zs.length * 5 := by
  induction zs with
  | nil => rfl
  | cons a r ih => simp [acells, ActD.cells] at ih ⊢; omega
theorem acells_get (l : List (ActD × Value)) (j : Nat) (hj : j < l.length) (i : Nat) (hi : i < 5) : (acells l)[j * 5 + i]? = (l[j].1.cells l[j].2)[i]? := by
  induction l generalizing j with
  | nil => simp at hj
  | cons a r ih =>
    have hlen : (a.1.cells a.2).length = 5 := rfl
    cases j with
    | zero =>
      show ((a.1.cells a.2) ++ acells r)[0 * 5 + i]? = _
      rw [List.getElem?_append_left (by omega)]; simp
    | succ j =>
      show ((a.1.cells a.2) ++ acells r)[(j + 1) * 5 + i]? = _
      rw [List.getElem?_append_right (by omega), hlen, show (j + 1) * 5 + i - 5 = j * 5 + i by omega]
      simpa using ih j (by simpa using hj)
/-- The slice v reads as these acts. -/
def SlA (w : World) (v : Value) (l : List ActD) : Prop :=
  (l = [] ∧ ∃ a cap, v = .slice a 0 cap) ∨ ∃ (zs : List (ActD × Value)) (t : TypeId), zs.map (·.1) = l ∧ Sl t 5 w v zs.length (acells zs) ∧ ∀ z ∈ zs, SlX w z.2 z.1.ops
theorem SlA.len {w : World} {v : Value} {l : List ActD} (h : SlA w v l) : ∃ a cap, v = .slice a l.length cap := by
  rcases h with ⟨rfl, a, cap, h⟩ | ⟨zs, t, h1, h2, _⟩
  · exact ⟨a, cap, h⟩
  · obtain ⟨a, cap, h3, _⟩ := h2.form
    exact ⟨a, cap, by rw [h3, ← h1]; simp⟩
/-- One of them. -/
theorem SlA.at {w : World} {a : Option Addr} {n cap : Nat} {l : List ActD} (h : SlA w (.slice a n cap) l) (k : Nat) (hk : k < l.length) : ∃ b off sa sc, a = some ⟨b, off, none⟩ ∧ b < w.heap.size ∧ w.cell? ⟨b, off + k * 5, none⟩ = some (.int .i64 l[k].op) ∧ w.cell? ⟨b, off + k * 5 + 1, none⟩ = some (.int .i64 l[k].id) ∧ w.cell? ⟨b, off + k * 5 + 2, none⟩ = some (.int .i64 l[k].sess) ∧ w.cell? ⟨b, off + k * 5 + 3, none⟩ = some (.slice sa l[k].ops.length sc) ∧ w.cell? ⟨b, off + k * 5 + 4, none⟩ = some (.bool l[k].yes) ∧ SlX w (.slice sa l[k].ops.length sc) l[k].ops := by
  rcases h with ⟨rfl, _⟩ | ⟨zs, t, h1, h2, h3⟩
  · simp at hk
  have hl : zs.length = l.length := by rw [← h1]; simp
  have hk' : k < zs.length := by omega
  have hz : l[k] = zs[k].1 := by subst h1; simp
  obtain ⟨e1, ⟨e0, e2⟩ | ⟨b, off, cap', c, fr, e0, a2, a3, a4, a5⟩⟩ := h2
  · omega
  · cases e0
    have g := fun (i : Nat) (hi : i < 5) => (cell_of_blk (o := off + (k * 5 + i)) a3).trans ((a5 (k * 5 + i) (by rw [acells_len]; omega)).trans (acells_get zs k hk' i hi))
    have ho := h3 zs[k] (List.getElem_mem hk')
    obtain ⟨sa, sc, hv⟩ := ho.len
    rw [hv] at ho
    have g0 := g 0 (by omega); have g1 := g 1 (by omega); have g2 := g 2 (by omega); have g3 := g 3 (by omega); have g4 := g 4 (by omega)
    simp only [ActD.cells, hv] at g0 g1 g2 g3 g4
    rw [hz]
    refine ⟨b, off, sa, sc, rfl, lt_of_blk a3, ?_, ?_, ?_, ?_, ?_, ho⟩
    · simpa using g0
    · rw [Nat.add_assoc]; simpa using g1
    · rw [Nat.add_assoc]; simpa using g2
    · rw [Nat.add_assoc]; simpa using g3
    · rw [Nat.add_assoc]; simpa using g4

theorem localP_zx {P : PartD} {r : Req} (h : may r = 0) : (localP P r).1.zxid = P.zxid + 1 ∧ (localP P r).2.zxid = P.zxid + 1 := by
  unfold localP
  rw [if_neg (by simp [h])]
  simp only
  split
  · exact ⟨rfl, rfl⟩
  · refine ⟨rfl, ?_⟩
    unfold multiReq
    rw [if_neg (by simp [h])]
theorem localP_no {P : PartD} {r : Req} (h : may r ≠ 0) : (localP P r).1 = P ∧ (localP P r).2.zxid = 0 := by
  unfold localP
  rw [if_pos h]
  exact ⟨rfl, rfl⟩
theorem prepareP_zx (P : PartD) (id sess : Int) (l : List OpD) : (prepareP P id sess l).1.zxid = P.zxid := by
  unfold prepareP
  split
  · rfl
  · split
    · rfl
    · simp only; split <;> rfl
theorem closeP_zx (P : PartD) (id sess : Int) : (closeP P id sess).1.zxid = P.zxid := by
  unfold closeP
  split
  · rfl
  · split
    · rfl
    · split
      · rfl
      · split <;> rfl
theorem decideP_zx (P : PartD) (id : Int) (c : Bool) : ((decideP P id c).2.2 = 4 ∧ (decideP P id c).1.zxid = P.zxid) ∨ ((decideP P id c).2.2 = 0 ∧ (decideP P id c).1.zxid = P.zxid + 1) := by
  unfold decideP
  split
  · exact .inl ⟨rfl, rfl⟩
  · right
    simp only
    split
    · exact ⟨rfl, rfl⟩
    · split <;> exact ⟨rfl, rfl⟩
end Go.Av
namespace Go.Proofs.YtmigbgfgnhkmnaaGreatDoor
open Go.RowKit Go.Av Go.Maps Go.Sort

attribute [local go_sem ↓] Go.wp_at_zero Go.wp_at_succ
attribute [local go_sem] run_makeMap

variable {w w' w0 : World} {pb : Nat} {P : PartD} {N : Nat}

set_option maxHeartbeats 8000000 in
set_option maxRecDepth 100000 in
theorem zxids_any (l : List ActD) (v : Value) (w : World) (h : SlA w v l) (hi : ∀ a ∈ l, i64 a.id ∧ i64 a.sess) (hg : Gl w) :
    Calls Tryz.prog 4 #[v] w fun e w' => e = .returned (.bool true) ∧ Pu w w' := by
  obtain ⟨a, cap, rfl⟩ := h.len
  obtain ⟨n, hn⟩ : ∃ n, n = l.length := ⟨_, rfl⟩
  rw [← hn] at h ⊢
  have HN := Lib.hid hn; have HV := Lib.hid h; have HI := Lib.hid hi; have Hg := Lib.hid hg
  clear h hi hg hn
  by_cases h30 : 30 < n
  · go_enter Tryz.func4, Tryz.ntmps4
    go_wp2_with (go_at_call 9; refine (awake_any _ Hg.out).mono ?_; rintro e w1 ⟨rfl, hp⟩; have HP1 := Lib.hid hp; clear hp)
    go_ret
    exact ⟨rfl, HP1.out⟩
  · go_enter Tryz.func4, Tryz.ntmps4
    go_wp2_with (first
      | (go_at_call 9; refine (awake_any _ Hg.out).mono ?_; rintro e w1 ⟨rfl, hp⟩; have HP1 := Lib.hid hp; clear hp)
      | (go_at_call 10; refine (lNew (w0 := w) 60 _ (by omega) (by omega) HP1.out).mono ?_; rintro e w2 ⟨pb, rfl, st, hp⟩; have S2 := Lib.hid st; clear st hp))
    have HK0 := Lib.hid (newP_ok (room := 60) (by omega) (by omega))
    go_loopw [5] (fun vi wr => ∃ (k : Nat) (P : PartD), vi = .int .i64 k ∧ k ≤ n ∧ Hid (LawSt w pb P wr) ∧ Hid (PartOk k P)) (fun vi _ => n - (intOf vi).toNat)
    case atStart => exact ⟨0, newP 60, rfl, by omega, S2, HK0⟩
    case round =>
      clear HP1 S2 HK0
      obtain ⟨k, P, rfl, hk, ST, HO⟩ := hrel
      by_cases hkn : k < n
      · have hk2 : k < l.length := by have := HN.out; omega
        obtain ⟨b, off, sa, sc, rfl, hblt0, x0, x1, x2, x3, x4, hvo⟩ := HV.out.at k hk2
        have hbc := (bcell ST.out.base).1
        replace x0 := (hbc b (off + k * 5) hblt0).trans x0
        replace x1 := (hbc b (off + k * 5 + 1) hblt0).trans x1
        replace x2 := (hbc b (off + k * 5 + 2) hblt0).trans x2
        replace x3 := (hbc b (off + k * 5 + 3) hblt0).trans x3
        replace x4 := (hbc b (off + k * 5 + 4) hblt0).trans x4
        have hblt : b < wr.heap.size := Nat.lt_of_lt_of_le hblt0 ST.out.base.size
        clear hbc
        obtain ⟨x, hx⟩ : ∃ x, x = l[k] := ⟨_, rfl⟩
        rw [← hx] at x0 x1 x2 x3 x4 hvo
        have hix := HI.out x (by rw [hx]; exact List.getElem_mem _)
        have I1 := Lib.hid hix.1; have I2 := Lib.hid hix.2
        clear hx hix
        obtain ⟨op, id, sess, ops, yes⟩ := x
        simp only at x0 x1 x2 x3 x4 hvo I1 I2
        obtain ⟨on, hon⟩ : ∃ on, on = ops.length := ⟨_, rfl⟩
        rw [← hon] at x3 hvo
        have HON := Lib.hid hon
        have HVO := Lib.hid hvo
        have ST1 := Lib.hid (ST.out.pu (pu_alloc wr (.cells #[.int .i64 op, .int .i64 id, .int .i64 sess, .slice sa on sc, .bool yes] 30)))
        have hz0 := HO.out.z0
        have hz1 := HO.out.z1
        obtain ⟨z, hz⟩ : ∃ z, z = P.zxid := ⟨_, rfl⟩
        rw [← hz] at hz0 hz1
        have HZ := Lib.hid hz
        clear hvo hon hz
        cases hlo : longB ops
        · have hl2 := longB_no hlo
          have HPth : Hid (∀ o ∈ ops, o.path.length ≤ 1000000) := Lib.hid fun o ho => by have := (hl2.2 o ho).1; omega
          have HL := Lib.hid hlo
          clear hlo hl2
          have hzx : Hid (∀ W, LawSt w pb P W → Calls Tryz.prog 19 #[.pointer (some ⟨pb, 0, none⟩)] W fun e w' => e = .returned (.int .i64 z) ∧ W = w') := Lib.hid fun W st => by rw [HZ.out]; exact lZxid st
          by_cases h0 : op = 0
          · subst h0
            obtain ⟨R, hR⟩ : ∃ R, R = localP P ⟨sess, id, ops⟩ := ⟨_, rfl⟩
            obtain ⟨m, hm⟩ : ∃ m, m = may ⟨sess, id, ops⟩ := ⟨_, rfl⟩
            have HR := Lib.hid hR; have HM := Lib.hid hm
            have HRo : Hid (PartOk (k + 1) R.1) := Lib.hid (by rw [hR]; exact localP_ok HO.out _)
            have STq := Lib.hid (ST1.out.pu (pu_alloc _ (.cells #[.int .i64 sess, .int .i64 id, .slice sa on sc] 37)))
            have Bq := Lib.hid (al1 (wr.alloc (.cells #[.int .i64 0, .int .i64 id, .int .i64 sess, .slice sa on sc, .bool yes] 30)) (.cells #[.int .i64 sess, .int .i64 id, .slice sa on sc] 37))
            have hRz : (m = 0 ∧ R.1.zxid = z + 1 ∧ R.2.zxid = z + 1) ∨ (m ≠ 0 ∧ R.1.zxid = z ∧ R.2.zxid = 0) := by
              by_cases h : m = 0
              · left
                obtain ⟨q1, q2⟩ := localP_zx (P := P) (r := ⟨sess, id, ops⟩) (hm.symm.trans h)
                rw [hR, HZ.out]; exact ⟨h, q1, q2⟩
              · right
                obtain ⟨q1, q2⟩ := localP_no (P := P) (r := ⟨sess, id, ops⟩) (fun e => h (hm.trans e))
                rw [hR, HZ.out]; exact ⟨h, by rw [q1], q2⟩
            clear hR hm
            rcases hRz with ⟨rfl, e1, e2⟩ | ⟨hm0, e1, e2⟩
            all_goals
              have E1 := Lib.hid e1
              have E2 := Lib.hid e2
              clear e1 e2
              go_wp2_with fail
              refine (long_any ops _ _ (HVO.out.pu ST1.out.base)).mono ?_; rw [HL.out]; rintro e w3 ⟨rfl, rfl⟩
              go_wp2_with fail
              refine (hzx.out _ ST1.out).mono ?_; rintro e w4 ⟨rfl, rfl⟩
              go_wp2_with fail
              refine (lLocal STq.out HO.out (by omega) Hg.out ⟨sess, id, ops⟩ _ (.inl HVO.out) HPth.out I2.out).mono ?_
              rw [← HR.out]
              rintro e w5 ⟨rv, rfl, hr5, st5, k5⟩
              obtain ⟨ra, rc, rfl⟩ := hr5.len
              have B5 := k5.2 _ _ _ _ Bq.out (by decide)
              simp only [World.size_alloc] at B5
              have ST5 := Lib.hid (st5.pu (pu_alloc w5 (.cells (repCells R.2 (.slice ra R.2.results.length rc)).toArray 34)))
              have c0 : w5.cell? ⟨wr.heap.size + 1, 0, none⟩ = some (.int .i64 sess) := cell_of_blk B5
              have c1 : w5.cell? ⟨wr.heap.size + 1, 1, none⟩ = some (.int .i64 id) := cell_of_blk B5
              have c2 : w5.cell? ⟨wr.heap.size + 1, 2, none⟩ = some (.slice sa on sc) := cell_of_blk B5
              have hq5 := lt_of_blk B5
              have BQ6 := Lib.hid (al_old w5 (.cells (repCells R.2 (.slice ra R.2.results.length rc)).toArray 34) B5)
              have BR6 := Lib.hid (al1 w5 (.cells (repCells R.2 (.slice ra R.2.results.length rc)).toArray 34))
              clear hr5 st5 k5 B5
              go_wp2_with fail
              refine (mayX_any ⟨sess, id, ops⟩ _ _ (HVO.out.pu ST5.out.base) HPth.out (ST5.out.gl Hg.out)).mono ?_
              rw [← HM.out]
              rintro e w6 ⟨rfl, hp6⟩
              have ST6 := Lib.hid (ST5.out.pu hp6)
              have B6 := (hp6.block _ (lt_of_blk BQ6.out)).trans BQ6.out
              have R6 := (hp6.block _ (lt_of_blk BR6.out)).trans BR6.out
              have d0 : w6.cell? ⟨wr.heap.size + 1, 0, none⟩ = some (.int .i64 sess) := cell_of_blk B6
              have d1 : w6.cell? ⟨wr.heap.size + 1, 1, none⟩ = some (.int .i64 id) := cell_of_blk B6
              have d2 : w6.cell? ⟨wr.heap.size + 1, 2, none⟩ = some (.slice sa on sc) := cell_of_blk B6
              have f1 : w6.cell? ⟨w5.heap.size, 1, none⟩ = some (.int .i64 R.2.zxid) := cell_of_blk R6
              rw [E2.out] at f1
              have R6h := Lib.hid R6
              clear hp6 B6 R6
            · go_wp2_with fail
              refine (lZxid ST6.out).mono ?_; rw [E1.out]; rintro e w7 ⟨rfl, rfl⟩
              go_wp2_with fail
              refine (mayX_any ⟨sess, id, ops⟩ _ _ (HVO.out.pu ST6.out.base) HPth.out (ST6.out.gl Hg.out)).mono ?_
              rw [← HM.out]
              rintro e w8 ⟨rfl, hp8⟩
              have ST8 := Lib.hid (ST6.out.pu hp8)
              clear hp8
              go_wp2_with fail
              go_roundw
              case rel => exact ⟨k + 1, R.1, by go_num, by omega, ST8, HRo⟩
              case measure => simp [intOf]; omega
            · have z1 : (m == 0) = false := by simpa using hm0
              have z2 : (m != 0) = true := by simpa using hm0
              have z3 : decide (m = 0) = false := by simpa using hm0
              clear hm0
              go_wp2_with fail
              refine (mayX_any ⟨sess, id, ops⟩ _ _ (HVO.out.pu ST6.out.base) HPth.out (ST6.out.gl Hg.out)).mono ?_
              rw [← HM.out]
              rintro e w8 ⟨rfl, hp8⟩
              have ST8 := Lib.hid (ST6.out.pu hp8)
              have g1 : w8.cell? ⟨w5.heap.size, 1, none⟩ = some (.int .i64 R.2.zxid) := cell_of_blk ((hp8.block _ (lt_of_blk R6h.out)).trans R6h.out)
              rw [E2.out] at g1
              clear hp8
              go_wp2_with fail
              refine (lZxid ST8.out).mono ?_; rw [E1.out]; rintro e w7 ⟨rfl, rfl⟩
              go_wp2_with fail
              go_roundw
              case rel => exact ⟨k + 1, R.1, by go_num, by omega, ST8, HRo⟩
              case measure => simp [intOf]; omega
          · have y0 : (op == 0) = false := by simpa using h0
            by_cases h1 : op = 1
            · subst h1
              obtain ⟨R, hR⟩ : ∃ R, R = prepareP P id sess ops := ⟨_, rfl⟩
              have HR := Lib.hid hR
              have HRz : Hid (R.1.zxid = z) := Lib.hid (by rw [hR, prepareP_zx, HZ.out])
              have HRo : Hid (PartOk (k + 1) R.1) := Lib.hid (by rw [hR]; exact prepareP_ok HO.out (by omega) _ _ _ I2.out)
              clear hR
              go_wp2_with fail
              refine (long_any ops _ _ (HVO.out.pu ST1.out.base)).mono ?_; rw [HL.out]; rintro e w3 ⟨rfl, rfl⟩
              go_wp2_with fail
              refine (hzx.out _ ST1.out).mono ?_; rintro e w4 ⟨rfl, rfl⟩
              go_wp2_with fail
              refine (lPrep ST1.out HO.out (by omega) Hg.out id sess ops _ (.inl HVO.out) HPth.out I1.out I2.out).mono ?_; rw [← HR.out]; rintro e w5 ⟨rfl, st5, _⟩; have ST5 := Lib.hid st5; clear st5
              go_wp2_with fail
              refine (lZxid ST5.out).mono ?_; rw [HRz.out]; rintro e w6 ⟨rfl, rfl⟩
              go_wp2_with fail
              go_roundw
              case rel => exact ⟨k + 1, R.1, by go_num, by omega, ST5, HRo⟩
              case measure => simp [intOf]; omega
            · have y1 : (op == 1) = false := by simpa using h1
              by_cases h2 : op = 2
              · subst h2
                obtain ⟨R, hR⟩ : ∃ R, R = closeP P id sess := ⟨_, rfl⟩
                have HR := Lib.hid hR
                have HRz : Hid (R.1.zxid = z) := Lib.hid (by rw [hR, closeP_zx, HZ.out])
                have HRo : Hid (PartOk (k + 1) R.1) := Lib.hid (by rw [hR]; exact closeP_ok HO.out (by omega) _ _ I2.out)
                clear hR
                go_wp2_with fail
                refine (long_any ops _ _ (HVO.out.pu ST1.out.base)).mono ?_; rw [HL.out]; rintro e w3 ⟨rfl, rfl⟩
                go_wp2_with fail
                refine (hzx.out _ ST1.out).mono ?_; rintro e w4 ⟨rfl, rfl⟩
                go_wp2_with fail
                refine (lClose ST1.out HO.out (by omega) Hg.out id sess I1.out I2.out).mono ?_; rw [← HR.out]; rintro e w5 ⟨rfl, st5, _⟩; have ST5 := Lib.hid st5; clear st5
                go_wp2_with fail
                refine (lZxid ST5.out).mono ?_; rw [HRz.out]; rintro e w6 ⟨rfl, rfl⟩
                go_wp2_with fail
                go_roundw
                case rel => exact ⟨k + 1, R.1, by go_num, by omega, ST5, HRo⟩
                case measure => simp [intOf]; omega
              · have y2 : (op == 2) = false := by simpa using h2
                obtain ⟨R, hR⟩ : ∃ R, R = decideP P id yes := ⟨_, rfl⟩
                have HR := Lib.hid hR
                have hRz : (R.2.2 = 4 ∧ R.1.zxid = z) ∨ (R.2.2 = 0 ∧ R.1.zxid = z + 1) := by rw [hR, HZ.out]; exact decideP_zx P id yes
                have HRo : Hid (PartOk (k + 1) R.1) := Lib.hid (by rw [hR]; exact decideP_ok HO.out _ _)
                clear hR
                rcases hRz with ⟨e1, e2⟩ | ⟨e1, e2⟩
                all_goals
                  have E1 := Lib.hid e1
                  have E2 := Lib.hid e2
                  clear e1 e2
                  go_wp2_with fail
                  refine (long_any ops _ _ (HVO.out.pu ST1.out.base)).mono ?_; rw [HL.out]; rintro e w3 ⟨rfl, rfl⟩
                  go_wp2_with fail
                  refine (hzx.out _ ST1.out).mono ?_; rintro e w4 ⟨rfl, rfl⟩
                  go_wp2_with fail
                  refine (lDec ST1.out HO.out (by omega) Hg.out id yes I1.out).mono ?_; rw [← HR.out, E1.out]; rintro e w5 ⟨rv, rfl, hr5, st5, _⟩; obtain ⟨ra, rc, rfl⟩ := hr5.len; have ST5 := Lib.hid st5; clear st5 hr5
                  go_wp2_with fail
                  refine (lZxid ST5.out).mono ?_; rw [E2.out]; rintro e w6 ⟨rfl, rfl⟩
                  go_wp2_with fail
                  go_roundw
                  case rel => exact ⟨k + 1, R.1, by go_num, by omega, ST5, HRo⟩
                  case measure => simp [intOf]; omega
        · have HL := Lib.hid hlo
          clear hlo
          go_wp2_with (go_at_call 11; refine (long_any ops _ _ (HVO.out.pu ST1.out.base)).mono ?_; rw [HL.out]; rintro e w3 ⟨rfl, rfl⟩)
          go_ret
          exact ⟨rfl, ST1.out.base⟩
      · go_wp2
        go_ret
        exact ⟨rfl, ST.out.base⟩

end Go.Proofs.YtmigbgfgnhkmnaaGreatDoor
