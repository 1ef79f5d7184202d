/- Part 1 of a proof in parts: what the code of these packages does, and plain facts about it (LawD). No condition of its own. -/
import Derived.Test.YtmigbgfgnhkmnaaGreatDoorZx13
/- Package aviarylaw18: PartLocks, walked: nothing is held but by what is prepared. -/
namespace Go.Av
/-- Who holds a lock is prepared. -/
def LockInv (P : PartD) : Prop := (∀ x ∈ P.locks, (aget x.2 P.wait).isSome = true) ∧ ∀ x ∈ P.wait, i64 x.1

theorem mem_takeL {L : LocksD} {who : Int} {l : List Str} {x : Str × Int} (h : x ∈ takeL L who l) : x ∈ L ∨ x.2 = who := by
  induction l generalizing L with
  | nil => exact .inl h
  | cons p r ih =>
    rcases ih (L := aput p who L) h with h | h
    · unfold aput at h
      rcases mem_ains.1 h with rfl | h
      · exact .inr rfl
      · exact .inl (mem_adel.1 h).1
    · exact .inr h
theorem mem_takeS {L : LocksD} {who : Int} {l : List Str} {x : Str × Int} (h : x ∈ takeS L who l) : x ∈ L ∨ x.2 = who := by
  unfold takeS at h
  split at h
  · exact .inl h
  · exact mem_takeL h
theorem mem_takeOps {L : LocksD} {who : Int} {l : List OpD} {x : Str × Int} (h : x ∈ takeOps L who l) : x ∈ L ∨ x.2 = who := by
  induction l generalizing L with
  | nil => exact .inl h
  | cons o r ih =>
    rcases ih (L := takeS L who (wantsO o)) h with h | h
    · exact mem_takeS h
    · exact .inr h

theorem newP_inv (room : Int) : LockInv (newP room) := ⟨fun x hx => by simp [newP] at hx, fun x hx => by simp [newP] at hx⟩
theorem localP_wait (P : PartD) (r : Req) : (localP P r).1.wait = P.wait ∧ (localP P r).1.locks = P.locks := by
  unfold localP
  split
  · exact ⟨rfl, rfl⟩
  · simp only; split <;> exact ⟨rfl, rfl⟩
theorem localP_inv {P : PartD} (h : LockInv P) (r : Req) : LockInv (localP P r).1 := by
  obtain ⟨a, b⟩ := localP_wait P r
  unfold LockInv
  rw [a, b]
  exact h
theorem LockInv.put {P : PartD} (h : LockInv P) {N : Nat} (ho : PartOk N P) (id : Int) (hi : i64 id) (x : PrepD) (L : LocksD) (hL : ∀ y ∈ L, y ∈ P.locks ∨ y.2 = id) : LockInv { P with locks := L, wait := aput id x P.wait } := by
  refine ⟨fun y hy => ?_, fun y hy => ?_⟩
  · show (aget y.2 (aput id x P.wait)).isSome = true
    rw [aget_aput ho.wait]
    split
    · rfl
    · rename_i hne
      rcases hL y hy with hm | hm
      · exact h.1 y hm
      · exact absurd hm hne
  · have hy' : y ∈ aput id x P.wait := hy
    unfold aput at hy'
    rcases mem_ains.1 hy' with rfl | hy'
    · exact hi
    · exact h.2 y (mem_adel.1 hy').1
theorem prepareP_inv {P : PartD} (h : LockInv P) {N : Nat} (ho : PartOk N P) (id sess : Int) (hi : i64 id) (l : List OpD) : LockInv (prepareP P id sess l).1 := by
  unfold prepareP
  split
  · exact h
  · split
    · exact h
    · simp only
      split
      · exact h
      · exact h.put ho id hi _ _ fun y hy => mem_takeOps hy
theorem closeP_inv {P : PartD} (h : LockInv P) {N : Nat} (ho : PartOk N P) (id sess : Int) (hi : i64 id) : LockInv (closeP P id sess).1 := by
  unfold closeP
  split
  · exact h
  · split
    · exact h
    · split
      · exact h
      · split
        · exact h
        · exact h.put ho id hi _ _ fun y hy => mem_takeL hy
theorem decideP_locks {P : PartD} (id : Int) (c : Bool) {x : PrepD} (hx : aget id P.wait = some x) : (decideP P id c).1.wait = adel id P.wait ∧ (decideP P id c).1.locks = freeL P.locks id ∧ (decideP P id c).2.2 = 0 := by
  unfold decideP
  rw [hx]
  simp only
  split
  · exact ⟨rfl, rfl, rfl⟩
  · split <;> exact ⟨rfl, rfl, rfl⟩
theorem decideP_inv {P : PartD} (h : LockInv P) {N : Nat} (ho : PartOk N P) (id : Int) (c : Bool) : LockInv (decideP P id c).1 := by
  cases hx : aget id P.wait with
  | none => unfold decideP; rw [hx]; exact h
  | some x =>
    obtain ⟨a, b, _⟩ := decideP_locks id c hx
    refine ⟨fun y hy => ?_, fun y hy => ?_⟩
    · rw [b] at hy
      obtain ⟨m, n⟩ := List.mem_filter.1 hy
      rw [a, aget_adel ho.wait, if_neg (by simpa using n)]
      exact h.1 y m
    · rw [a] at hy
      exact h.2 y (mem_adel.1 hy).1
theorem LockInv.empty {P : PartD} (h : LockInv P) (hw : P.wait = []) : P.locks.length = 0 ∧ wantedP P = 0 := by
  refine ⟨?_, by simp [wantedP, wantedW, hw]⟩
  cases hl : P.locks with
  | nil => rfl
  | cons x r =>
    have := h.1 x (by rw [hl]; simp)
    rw [hw] at this
    simp [aget] at this
/-- The first of them decided. -/
theorem adel_head {V : Type} {x : Int × V} {r : List (Int × V)} (h : asorted (x :: r)) : adel x.1 (x :: r) = r := by
  obtain ⟨h1, h2⟩ := List.pairwise_cons.1 h
  show List.filter _ _ = _
  rw [List.filter_cons_of_neg (by simp), List.filter_eq_self]
  intro y hy
  have := h1 y hy
  simp only [Key.lt, decide_eq_true_eq] at this
  simp only [Bool.not_eq_true', beq_eq_false_iff_ne]
  omega
theorem keys_rise {V : Type} {W : List (Int × V)} (h : asorted W) (k : Nat) (hk : k + 1 < (W.map (·.1)).length) : (W.map (·.1))[k]'(by omega) < (W.map (·.1))[k + 1] := by
  have h1 : k + 1 < W.length := by simpa using hk
  have := List.pairwise_iff_getElem.1 h k (k + 1) (by omega) h1 (by omega)
  simp only [Key.lt, decide_eq_true_eq] at this
  simpa using this
theorem decide_step {P : PartD} {N : Nat} (ho : PartOk N P) {W : List (Int × PrepD)} {k : Nat} (hW : P.wait = W.drop k) (hk : k < W.length) (c : Bool) : (decideP P W[k].1 c).1.wait = W.drop (k + 1) ∧ (decideP P W[k].1 c).2.2 = 0 := by
  have hd : W.drop k = W[k] :: W.drop (k + 1) := List.drop_eq_getElem_cons hk
  have hs := ho.wait
  rw [hW, hd] at hs
  have hg : aget W[k].1 P.wait = some W[k].2 := by
    rw [hW, hd]; unfold aget; rw [List.find?_cons_of_pos (by simp)]; rfl
  obtain ⟨a, _, b⟩ := decideP_locks (P := P) W[k].1 c hg
  exact ⟨by rw [a, hW, hd, adel_head hs], b⟩
end Go.Av
namespace Go.Proofs.YtmigbgfgnhkmnaaGreatDoor
open Go.RowKit Go.Av Go.Maps Go.Sort

attribute [local go_sem ↓] Go.wp_at_zero Go.wp_at_succ
attribute [local go_sem] run_makeMap

variable {w w' w0 : World} {pb : Nat} {P : PartD} {N : Nat}

set_option maxHeartbeats 8000000 in
set_option maxRecDepth 100000 in
theorem locks_any (l : List ActD) (v : Value) (w : World) (h : SlA w v l) (hi : ∀ a ∈ l, i64 a.id ∧ i64 a.sess) (hg : Gl w) :
    Calls Tryz.prog 3 #[v] w fun e w' => e = .returned (.bool true) ∧ Pu w w' := by
  obtain ⟨a, cap, rfl⟩ := h.len
  obtain ⟨n, hn⟩ : ∃ n, n = l.length := ⟨_, rfl⟩
  rw [← hn] at h ⊢
  have HN := Lib.hid hn; have HV := Lib.hid h; have HI := Lib.hid hi; have Hg := Lib.hid hg
  clear h hi hg hn
  by_cases h30 : 30 < n
  · go_enter Tryz.func3, Tryz.ntmps3
    go_wp2_with (go_at_call 9; refine (awake_any _ Hg.out).mono ?_; rintro e w1 ⟨rfl, hp⟩; have HP1 := Lib.hid hp; clear hp)
    go_ret
    exact ⟨rfl, HP1.out⟩
  · go_enter Tryz.func3, Tryz.ntmps3
    go_wp2_with (first
      | (go_at_call 9; refine (awake_any _ Hg.out).mono ?_; rintro e w1 ⟨rfl, hp⟩; have HP1 := Lib.hid hp; clear hp)
      | (go_at_call 10; refine (lNew (w0 := w) 60 _ (by omega) (by omega) HP1.out).mono ?_; rintro e w2 ⟨pb, rfl, st, hp⟩; have S2 := Lib.hid st; clear st hp))
    have HK0 := Lib.hid (newP_ok (room := 60) (by omega) (by omega))
    have HI0 := Lib.hid (newP_inv 60)
    go_loopw [5] (fun vi wr => ∃ (k : Nat) (P : PartD), vi = .int .i64 k ∧ k ≤ n ∧ Hid (LawSt w pb P wr) ∧ Hid (PartOk k P) ∧ Hid (LockInv P)) (fun vi _ => n - (intOf vi).toNat)
    case atStart => exact ⟨0, newP 60, rfl, by omega, S2, HK0, HI0⟩
    case round =>
      clear HP1 S2 HK0 HI0
      obtain ⟨k, P, rfl, hk, ST, HO, HLI⟩ := hrel
      by_cases hkn : k < n
      · have hk2 : k < l.length := by have := HN.out; omega
        obtain ⟨b, off, sa, sc, rfl, hblt0, x0, x1, x2, x3, x4, hvo⟩ := HV.out.at k hk2
        have hbc := (bcell ST.out.base).1
        replace x0 := (hbc b (off + k * 5) hblt0).trans x0
        replace x1 := (hbc b (off + k * 5 + 1) hblt0).trans x1
        replace x2 := (hbc b (off + k * 5 + 2) hblt0).trans x2
        replace x3 := (hbc b (off + k * 5 + 3) hblt0).trans x3
        replace x4 := (hbc b (off + k * 5 + 4) hblt0).trans x4
        have hblt : b < wr.heap.size := Nat.lt_of_lt_of_le hblt0 ST.out.base.size
        clear hbc
        obtain ⟨x, hx⟩ : ∃ x, x = l[k] := ⟨_, rfl⟩
        rw [← hx] at x0 x1 x2 x3 x4 hvo
        have hix := HI.out x (by rw [hx]; exact List.getElem_mem _)
        have I1 := Lib.hid hix.1; have I2 := Lib.hid hix.2
        clear hx hix
        obtain ⟨op, id, sess, ops, yes⟩ := x
        simp only at x0 x1 x2 x3 x4 hvo I1 I2
        obtain ⟨on, hon⟩ : ∃ on, on = ops.length := ⟨_, rfl⟩
        rw [← hon] at x3 hvo
        have HVO := Lib.hid hvo
        have ST1 := Lib.hid (ST.out.pu (pu_alloc wr (.cells #[.int .i64 op, .int .i64 id, .int .i64 sess, .slice sa on sc, .bool yes] 30)))
        clear hvo hon
        cases hlo : longB ops
        · have hl2 := longB_no hlo
          have HPth : Hid (∀ o ∈ ops, o.path.length ≤ 1000000) := Lib.hid fun o ho => by have := (hl2.2 o ho).1; omega
          have HL := Lib.hid hlo
          clear hlo hl2
          by_cases h0 : op = 0
          · subst h0
            obtain ⟨R, hR⟩ : ∃ R, R = localP P ⟨sess, id, ops⟩ := ⟨_, rfl⟩
            have HR := Lib.hid hR
            have HRo : Hid (PartOk (k + 1) R.1) := Lib.hid (by rw [hR]; exact localP_ok HO.out _)
            have HRi : Hid (LockInv R.1) := Lib.hid (by rw [hR]; exact localP_inv HLI.out _)
            clear hR
            go_wp2_with fail
            refine (long_any ops _ _ (HVO.out.pu ST1.out.base)).mono ?_; rw [HL.out]; rintro e w3 ⟨rfl, rfl⟩
            go_wp2_with fail
            refine (lLocal ST1.out HO.out (by omega) Hg.out ⟨sess, id, ops⟩ _ (.inl HVO.out) HPth.out I2.out).mono ?_
            rw [← HR.out]
            rintro e w5 ⟨rv, rfl, hr5, st5, _⟩
            obtain ⟨ra, rc, rfl⟩ := hr5.len
            have ST5 := Lib.hid st5
            clear hr5 st5
            obtain ⟨W5, hW5⟩ : ∃ W5, W5 = R.1.wait.map (·.1) := ⟨_, rfl⟩
            have HW5 := Lib.hid hW5
            cases hlen : W5 with
            | nil =>
              have hz := HRi.out.empty (by have h := HW5.out; rw [hlen] at h; cases hq : R.1.wait with
                | nil => rfl
                | cons z r => rw [hq] at h; simp at h)
              have E3 := Lib.hid hz.1; have E4 := Lib.hid hz.2
              have HW6 : Hid (R.1.wait.map (·.1) = []) := Lib.hid (by rw [← HW5.out, hlen])
              clear hz hlen hW5 HW5
              go_wp2_with (first
                | (go_at_call 16; refine (lWait ST5.out HRo.out (by omega)).mono ?_; rw [HW6.out]; rintro e w9 ⟨v9, rfl, ho9, hp9⟩; obtain ⟨a9, c9, rfl⟩ := OwnI.form ho9; have ST9 := Lib.hid (ST5.out.pu hp9); clear ho9 hp9)
                | (go_at_call 17; refine (lLocks ST9.out).mono ?_; rw [E3.out]; rintro e w10 ⟨rfl, rfl⟩)
                | (go_at_call 18; refine (lWanted ST9.out HRo.out (by omega)).mono ?_; rw [E4.out]; rintro e w11 ⟨rfl, hp11⟩; have ST11 := Lib.hid (ST9.out.pu hp11); clear hp11))
              go_roundw
              case rel => exact ⟨k + 1, R.1, by go_num, by omega, ST11, HRo, HRi⟩
              case measure => simp [intOf]; omega
            | cons z r =>
              have HW6 : Hid (R.1.wait.map (·.1) = z :: r) := Lib.hid (by rw [← HW5.out, hlen])
              clear hlen hW5 HW5
              go_wp2_with (go_at_call 16; refine (lWait ST5.out HRo.out (by omega)).mono ?_; rw [HW6.out]; rintro e w9 ⟨v9, rfl, ho9, hp9⟩; obtain ⟨a9, c9, rfl⟩ := OwnI.form ho9; have ST9 := Lib.hid (ST5.out.pu hp9); clear ho9 hp9)
              go_roundw
              case rel => exact ⟨k + 1, R.1, by go_num, by omega, ST9, HRo, HRi⟩
              case measure => simp [intOf]; omega
          · have y0 : (op == 0) = false := by simpa using h0
            by_cases h1 : op = 1
            · subst h1
              obtain ⟨R, hR⟩ : ∃ R, R = prepareP P id sess ops := ⟨_, rfl⟩
              have HR := Lib.hid hR
              have HRo : Hid (PartOk (k + 1) R.1) := Lib.hid (by rw [hR]; exact prepareP_ok HO.out (by omega) _ _ _ I2.out)
              have HRi : Hid (LockInv R.1) := Lib.hid (by rw [hR]; exact prepareP_inv HLI.out HO.out _ _ I1.out _)
              clear hR
              go_wp2_with fail
              refine (long_any ops _ _ (HVO.out.pu ST1.out.base)).mono ?_; rw [HL.out]; rintro e w3 ⟨rfl, rfl⟩
              go_wp2_with fail
              refine (lPrep ST1.out HO.out (by omega) Hg.out id sess ops _ (.inl HVO.out) HPth.out I1.out I2.out).mono ?_; rw [← HR.out]; rintro e w5 ⟨rfl, st5, _⟩; have ST5 := Lib.hid st5; clear st5
              obtain ⟨W5, hW5⟩ : ∃ W5, W5 = R.1.wait.map (·.1) := ⟨_, rfl⟩
              have HW5 := Lib.hid hW5
              cases hlen : W5 with
              | nil =>
                have hz := HRi.out.empty (by have h := HW5.out; rw [hlen] at h; cases hq : R.1.wait with
                  | nil => rfl
                  | cons z r => rw [hq] at h; simp at h)
                have E3 := Lib.hid hz.1; have E4 := Lib.hid hz.2
                have HW6 : Hid (R.1.wait.map (·.1) = []) := Lib.hid (by rw [← HW5.out, hlen])
                clear hz hlen hW5 HW5
                go_wp2_with (first
                  | (go_at_call 16; refine (lWait ST5.out HRo.out (by omega)).mono ?_; rw [HW6.out]; rintro e w9 ⟨v9, rfl, ho9, hp9⟩; obtain ⟨a9, c9, rfl⟩ := OwnI.form ho9; have ST9 := Lib.hid (ST5.out.pu hp9); clear ho9 hp9)
                  | (go_at_call 17; refine (lLocks ST9.out).mono ?_; rw [E3.out]; rintro e w10 ⟨rfl, rfl⟩)
                  | (go_at_call 18; refine (lWanted ST9.out HRo.out (by omega)).mono ?_; rw [E4.out]; rintro e w11 ⟨rfl, hp11⟩; have ST11 := Lib.hid (ST9.out.pu hp11); clear hp11))
                go_roundw
                case rel => exact ⟨k + 1, R.1, by go_num, by omega, ST11, HRo, HRi⟩
                case measure => simp [intOf]; omega
              | cons z r =>
                have HW6 : Hid (R.1.wait.map (·.1) = z :: r) := Lib.hid (by rw [← HW5.out, hlen])
                clear hlen hW5 HW5
                go_wp2_with (go_at_call 16; refine (lWait ST5.out HRo.out (by omega)).mono ?_; rw [HW6.out]; rintro e w9 ⟨v9, rfl, ho9, hp9⟩; obtain ⟨a9, c9, rfl⟩ := OwnI.form ho9; have ST9 := Lib.hid (ST5.out.pu hp9); clear ho9 hp9)
                go_roundw
                case rel => exact ⟨k + 1, R.1, by go_num, by omega, ST9, HRo, HRi⟩
                case measure => simp [intOf]; omega
            · have y1 : (op == 1) = false := by simpa using h1
              by_cases h2 : op = 2
              · subst h2
                obtain ⟨R, hR⟩ : ∃ R, R = closeP P id sess := ⟨_, rfl⟩
                have HR := Lib.hid hR
                have HRo : Hid (PartOk (k + 1) R.1) := Lib.hid (by rw [hR]; exact closeP_ok HO.out (by omega) _ _ I2.out)
                have HRi : Hid (LockInv R.1) := Lib.hid (by rw [hR]; exact closeP_inv HLI.out HO.out _ _ I1.out)
                clear hR
                go_wp2_with fail
                refine (long_any ops _ _ (HVO.out.pu ST1.out.base)).mono ?_; rw [HL.out]; rintro e w3 ⟨rfl, rfl⟩
                go_wp2_with fail
                refine (lClose ST1.out HO.out (by omega) Hg.out id sess I1.out I2.out).mono ?_; rw [← HR.out]; rintro e w5 ⟨rfl, st5, _⟩; have ST5 := Lib.hid st5; clear st5
                obtain ⟨W5, hW5⟩ : ∃ W5, W5 = R.1.wait.map (·.1) := ⟨_, rfl⟩
                have HW5 := Lib.hid hW5
                cases hlen : W5 with
                | nil =>
                  have hz := HRi.out.empty (by have h := HW5.out; rw [hlen] at h; cases hq : R.1.wait with
                    | nil => rfl
                    | cons z r => rw [hq] at h; simp at h)
                  have E3 := Lib.hid hz.1; have E4 := Lib.hid hz.2
                  have HW6 : Hid (R.1.wait.map (·.1) = []) := Lib.hid (by rw [← HW5.out, hlen])
                  clear hz hlen hW5 HW5
                  go_wp2_with (first
                    | (go_at_call 16; refine (lWait ST5.out HRo.out (by omega)).mono ?_; rw [HW6.out]; rintro e w9 ⟨v9, rfl, ho9, hp9⟩; obtain ⟨a9, c9, rfl⟩ := OwnI.form ho9; have ST9 := Lib.hid (ST5.out.pu hp9); clear ho9 hp9)
                    | (go_at_call 17; refine (lLocks ST9.out).mono ?_; rw [E3.out]; rintro e w10 ⟨rfl, rfl⟩)
                    | (go_at_call 18; refine (lWanted ST9.out HRo.out (by omega)).mono ?_; rw [E4.out]; rintro e w11 ⟨rfl, hp11⟩; have ST11 := Lib.hid (ST9.out.pu hp11); clear hp11))
                  go_roundw
                  case rel => exact ⟨k + 1, R.1, by go_num, by omega, ST11, HRo, HRi⟩
                  case measure => simp [intOf]; omega
                | cons z r =>
                  have HW6 : Hid (R.1.wait.map (·.1) = z :: r) := Lib.hid (by rw [← HW5.out, hlen])
                  clear hlen hW5 HW5
                  go_wp2_with (go_at_call 16; refine (lWait ST5.out HRo.out (by omega)).mono ?_; rw [HW6.out]; rintro e w9 ⟨v9, rfl, ho9, hp9⟩; obtain ⟨a9, c9, rfl⟩ := OwnI.form ho9; have ST9 := Lib.hid (ST5.out.pu hp9); clear ho9 hp9)
                  go_roundw
                  case rel => exact ⟨k + 1, R.1, by go_num, by omega, ST9, HRo, HRi⟩
                  case measure => simp [intOf]; omega
              · have y2 : (op == 2) = false := by simpa using h2
                obtain ⟨R, hR⟩ : ∃ R, R = decideP P id yes := ⟨_, rfl⟩
                have HR := Lib.hid hR
                have HRo : Hid (PartOk (k + 1) R.1) := Lib.hid (by rw [hR]; exact decideP_ok HO.out _ _)
                have HRi : Hid (LockInv R.1) := Lib.hid (by rw [hR]; exact decideP_inv HLI.out HO.out _ _)
                clear hR
                go_wp2_with fail
                refine (long_any ops _ _ (HVO.out.pu ST1.out.base)).mono ?_; rw [HL.out]; rintro e w3 ⟨rfl, rfl⟩
                go_wp2_with fail
                refine (lDec ST1.out HO.out (by omega) Hg.out id yes I1.out).mono ?_; rw [← HR.out]; rintro e w5 ⟨rv, rfl, hr5, st5, _⟩; obtain ⟨ra, rc, rfl⟩ := hr5.len; have ST5 := Lib.hid st5; clear st5 hr5
                obtain ⟨W5, hW5⟩ : ∃ W5, W5 = R.1.wait.map (·.1) := ⟨_, rfl⟩
                have HW5 := Lib.hid hW5
                cases hlen : W5 with
                | nil =>
                  have hz := HRi.out.empty (by have h := HW5.out; rw [hlen] at h; cases hq : R.1.wait with
                    | nil => rfl
                    | cons z r => rw [hq] at h; simp at h)
                  have E3 := Lib.hid hz.1; have E4 := Lib.hid hz.2
                  have HW6 : Hid (R.1.wait.map (·.1) = []) := Lib.hid (by rw [← HW5.out, hlen])
                  clear hz hlen hW5 HW5
                  go_wp2_with (first
                    | (go_at_call 16; refine (lWait ST5.out HRo.out (by omega)).mono ?_; rw [HW6.out]; rintro e w9 ⟨v9, rfl, ho9, hp9⟩; obtain ⟨a9, c9, rfl⟩ := OwnI.form ho9; have ST9 := Lib.hid (ST5.out.pu hp9); clear ho9 hp9)
                    | (go_at_call 17; refine (lLocks ST9.out).mono ?_; rw [E3.out]; rintro e w10 ⟨rfl, rfl⟩)
                    | (go_at_call 18; refine (lWanted ST9.out HRo.out (by omega)).mono ?_; rw [E4.out]; rintro e w11 ⟨rfl, hp11⟩; have ST11 := Lib.hid (ST9.out.pu hp11); clear hp11))
                  go_roundw
                  case rel => exact ⟨k + 1, R.1, by go_num, by omega, ST11, HRo, HRi⟩
                  case measure => simp [intOf]; omega
                | cons z r =>
                  have HW6 : Hid (R.1.wait.map (·.1) = z :: r) := Lib.hid (by rw [← HW5.out, hlen])
                  clear hlen hW5 HW5
                  go_wp2_with (go_at_call 16; refine (lWait ST5.out HRo.out (by omega)).mono ?_; rw [HW6.out]; rintro e w9 ⟨v9, rfl, ho9, hp9⟩; obtain ⟨a9, c9, rfl⟩ := OwnI.form ho9; have ST9 := Lib.hid (ST5.out.pu hp9); clear ho9 hp9)
                  go_roundw
                  case rel => exact ⟨k + 1, R.1, by go_num, by omega, ST9, HRo, HRi⟩
                  case measure => simp [intOf]; omega
        · have HL := Lib.hid hlo
          clear hlo
          go_wp2_with (go_at_call 11; refine (long_any ops _ _ (HVO.out.pu ST1.out.base)).mono ?_; rw [HL.out]; rintro e w3 ⟨rfl, rfl⟩)
          go_ret
          exact ⟨rfl, ST1.out.base⟩
      · have hk' : k = n := by omega
        subst hk'
        obtain ⟨ws, hws⟩ : ∃ ws, ws = P.wait.map (·.1) := ⟨_, rfl⟩
        obtain ⟨W, hW⟩ : ∃ W, W = P.wait := ⟨_, rfl⟩
        have HW := Lib.hid hW
        have HWs := Lib.hid (show ws = W.map (·.1) by rw [hws, hW])
        have HSo := Lib.hid (show asorted W by rw [hW]; exact HO.out.wait)
        obtain ⟨m, hm⟩ : ∃ m, m = W.length := ⟨_, rfl⟩
        have HM := Lib.hid hm
        have hm30 : m ≤ 30 := by have := HO.out.waitn; rw [hm, hW]; omega
        have HLw : Hid (ws.length = m) := Lib.hid (by rw [HWs.out, hm]; simp)
        clear hm hW
        go_wp2_with fail
        refine (lWait ST.out HO.out (by omega)).mono ?_
        rw [← hws]
        clear hws
        rintro e w2 ⟨v2, rfl, ho2, hp2⟩
        obtain ⟨a2, c2, rfl⟩ := OwnI.form ho2
        have ST2 := Lib.hid (ST.out.pu hp2)
        have HB2 : Hid (∀ i (hi : i < ws.length), ∃ g c fr, a2 = some ⟨g, 0, none⟩ ∧ w2.heap[g]? = some (.cells c 2 fr) ∧ ∀ j (hj : j < ws.length), c[j]? = some (.int .i64 ws[j])) := Lib.hid (by
          intro i hi
          obtain ⟨e1, ⟨e2, e3⟩ | ⟨g, cc, cur, e2, _, e3, e4, _, e5, e6⟩⟩ := ho2
          · omega
          · refine ⟨g, cur, (0, 0), by cases e2; rfl, e3, fun j hj => ?_⟩
            have h1 : (cur.toList.take (ws.length * 1))[j]? = (intV ws)[j]? := by rw [e6]
            rw [List.getElem?_take, if_pos (by omega)] at h1
            simpa [intV, hj] using h1)
        have HB3 : Hid (∀ i (hi : i < ws.length), i64 ws[i]) := Lib.hid (fun i hi => by
          obtain ⟨y, hy, e⟩ := List.mem_map.1 (show ws[i] ∈ W.map (·.1) by rw [← HWs.out]; exact List.getElem_mem _)
          rw [← e]; exact HLI.out.2 y (by rw [← HW.out]; exact hy))
        rw [HLw.out]
        clear ho2 hp2
        go_wp2_with fail
        go_loopw [8] (fun vi wr => ∃ (k : Nat) (P : PartD), vi = .int .i64 k ∧ k ≤ m ∧ Hid (LawSt w pb P wr) ∧ Hid (PartOk (k + 30) P) ∧ Hid (LockInv P) ∧ Hid (P.wait = W.drop k) ∧ Hid (∀ i (hi : i < ws.length), ∃ g c fr, a2 = some ⟨g, 0, none⟩ ∧ wr.heap[g]? = some (.cells c 2 fr) ∧ ∀ j (hj : j < ws.length), c[j]? = some (.int .i64 ws[j]))) (fun vi _ => m - (intOf vi).toNat)
        case atStart => exact ⟨0, P, rfl, by omega, ST2, Lib.hid (HO.out.up (by omega)), HLI, Lib.hid (by rw [HW.out]; rfl), HB2⟩
        case round =>
          clear ST2 HB2 ST HO HLI HW
          obtain ⟨k, P, rfl, hk, ST, HO, HLI, HPW, HB⟩ := hrel
          by_cases hkm : k < m
          · have hkw : k < ws.length := by rw [HLw.out]; exact hkm
            have hkW : k < W.length := by rw [← HM.out]; exact hkm
            obtain ⟨g, c, fr, rfl, hblk, hc⟩ := HB.out k hkw
            obtain ⟨z, hz⟩ : ∃ z, z = ws[k] := ⟨_, rfl⟩
            have hzW : z = W[k].1 := by
              have h1 : ws[k]? = (W.map (·.1))[k]? := by rw [HWs.out]
              rw [List.getElem?_eq_getElem hkw, List.getElem?_map, List.getElem?_eq_getElem hkW] at h1
              rw [hz]; simpa using h1
            have hstep := decide_step HO.out HPW.out hkW false
            rw [← hzW] at hstep
            have x0 : wr.cell? ⟨g, k, none⟩ = some (.int .i64 z) := by rw [cell_of_blk hblk, hz]; exact hc k hkw
            have hgl := lt_of_blk hblk
            have I1 : Hid (i64 z) := Lib.hid (by rw [hz]; exact HB3.out k hkw)
            obtain ⟨R, hR⟩ : ∃ R, R = decideP P z false := ⟨_, rfl⟩
            rw [← hR] at hstep
            have HR := Lib.hid hR
            have HRo : Hid (PartOk (k + 1 + 30) R.1) := Lib.hid (by rw [hR]; exact (decideP_ok HO.out _ _).up (by omega))
            have HRi : Hid (LockInv R.1) := Lib.hid (by rw [hR]; exact decideP_inv HLI.out HO.out _ _)
            have HRw := Lib.hid hstep.1
            have HRe := Lib.hid hstep.2
            have HZ := Lib.hid hz
            clear hR hstep hzW hz
            go_wp2_with fail
            refine (lDec ST.out HO.out (by omega) Hg.out z false I1.out).mono ?_; rw [← HR.out, HRe.out]; rintro e w5 ⟨rv, rfl, hr5, st5, k5⟩; obtain ⟨ra, rc, rfl⟩ := hr5.len
            have ST5 := Lib.hid st5
            have b5 := k5.2 _ _ _ _ hblk (by decide)
            have HB5 : Hid (∀ i (hi : i < ws.length), ∃ g' c fr, some (⟨g, 0, none⟩ : Addr) = some ⟨g', 0, none⟩ ∧ w5.heap[g']? = some (.cells c 2 fr) ∧ ∀ j (hj : j < ws.length), c[j]? = some (.int .i64 ws[j])) := Lib.hid fun i hi => ⟨g, c, fr, rfl, b5, hc⟩
            have x5 : w5.cell? ⟨g, k, none⟩ = some (.int .i64 z) := by rw [cell_of_blk b5, HZ.out]; exact hc k hkw
            have hg5 := lt_of_blk b5
            cases k with
            | zero =>
              clear st5 hr5 k5 hblk hc b5 HB
              go_wp2_with fail
              go_region
              go_wp2_with fail
              go_roundw
              case rel => exact ⟨0 + 1, R.1, by go_num, by omega, Lib.hid (ST5.out.pu (pu_drew1 _)), HRo, HRi, HRw, Lib.hid HB5.out⟩
              case measure => simp [intOf]; omega
            | succ j =>
              have hjw : j < ws.length := by omega
              obtain ⟨y, hy⟩ : ∃ y, y = ws[j] := ⟨_, rfl⟩
              have x6 : w5.cell? ⟨g, j, none⟩ = some (.int .i64 y) := by rw [cell_of_blk b5, hy]; exact hc j hjw
              have hlt : y < z := by
                have h1 := keys_rise HSo.out j (by rw [← HWs.out]; omega)
                have e := HWs.out
                subst e
                rw [hy, HZ.out]; exact h1
              have hle : decide (z ≤ y) = false := by simp; omega
              clear st5 hr5 k5 hblk hc b5 HB hy
              go_wp2_with fail
              go_region
              go_wp2_with fail
              go_roundw
              case rel => exact ⟨j + 1 + 1, R.1, by go_num, by omega, Lib.hid (ST5.out.pu (pu_drew1 _)), HRo, HRi, HRw, Lib.hid HB5.out⟩
              case measure => simp [intOf]; omega
          · have hk' : k = m := by omega
            subst hk'
            have hz := HLI.out.empty (by rw [HPW.out]; exact List.drop_of_length_le (by rw [← HM.out]; omega))
            have E3 := Lib.hid hz.1; have E4 := Lib.hid hz.2
            have E5 : Hid ((P.wait.map (·.1)) = []) := Lib.hid (by rw [HPW.out, List.drop_of_length_le (by rw [← HM.out]; omega)]; rfl)
            clear hz
            go_wp2_with (first
              | (go_at_call 17; refine (lLocks ST.out).mono ?_; rw [E3.out]; rintro e w10 ⟨rfl, rfl⟩)
              | (go_at_call 18; refine (lWanted ST.out HO.out (by omega)).mono ?_; rw [E4.out]; rintro e w11 ⟨rfl, hp11⟩; have ST11 := Lib.hid (ST.out.pu hp11); clear hp11)
              | (go_at_call 16; refine (lWait ST11.out HO.out (by omega)).mono ?_; rw [E5.out]; rintro e w9 ⟨v9, rfl, ho9, hp9⟩; obtain ⟨a9, c9, rfl⟩ := OwnI.form ho9; have ST9 := Lib.hid (ST11.out.pu hp9); clear ho9 hp9))
            go_ret
            exact ⟨rfl, ST9.out.base⟩

end Go.Proofs.YtmigbgfgnhkmnaaGreatDoor
