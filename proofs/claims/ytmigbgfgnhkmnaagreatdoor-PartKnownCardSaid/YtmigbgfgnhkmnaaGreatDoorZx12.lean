/- Part 12 of a proof in parts: what the code of these packages does, and plain facts about it (PartE, PartF, PartG, PartH, PartI, PartJ, PartK, LawA, LawB). No condition of its own. -/
import Derived.Test.YtmigbgfgnhkmnaaGreatDoorZx11
/- Package part: Local. -/
namespace Go.Proofs.YtmigbgfgnhkmnaaGreatDoor
open Go.RowKit Go.Av Go.Maps Go.Sort

attribute [local go_sem ↓] Go.wp_at_zero Go.wp_at_succ
attribute [local go_sem] run_makeMap

variable {w w' : World} {pb : Nat} {A : PL} {P : PartD}

/-- What Local answers; the part in its place. -/
def LocalR (w : World) (pb : Nat) (A : PL) (P : PartD) (a : PartD × ReplyD) (e : Ending) (w' : World) : Prop :=
  ∃ rv, e = .returned (.agg (repCells a.2 rv).toArray) ∧ SlR 59 9 w' rv a.2.results ∧ PartStep w pb A P a.1 w'

set_option maxHeartbeats 2000000 in
set_option maxRecDepth 100000 in
theorem local_bad (r : Req) (v : Value) (w : World) (h : PartIn w pb A P) (hv : SlX w v r.ops) (hp : ∀ o ∈ r.ops, o.path.length ≤ 1000000) (hg : Gl w) (hm : may r ≠ 0) :
    Calls Tryz.prog 12 #[.pointer (some ⟨pb, 0, none⟩), .agg #[.int .i64 r.sess, .int .i64 r.num, v]] w (LocalR w pb A P (localP P r)) := by
  have e1 : localP P r = (P, failRep r.num (may r) (-1) 0) := by simp [localP, hm]
  rw [e1]
  obtain ⟨a, cap, rfl⟩ := hv.len
  have H := Lib.hid h
  have P2 := Lib.hid ((pu_alloc w (.cells #[.int .i64 r.sess, .int .i64 r.num, .slice a r.ops.length cap] 37)).tr (pu_alloc _ (.cells zeroRep 34)))
  have B1 := Lib.hid (al2a w (.cells #[.int .i64 r.sess, .int .i64 r.num, .slice a r.ops.length cap] 37) (.cells zeroRep 34))
  have B2 := Lib.hid (al2b w (.cells #[.int .i64 r.sess, .int .i64 r.num, .slice a r.ops.length cap] 37) (.cells zeroRep 34))
  have Hv := Lib.hid hv
  have Hp := Lib.hid hp
  have Hg := Lib.hid hg
  obtain ⟨m, hm'⟩ : ∃ m, m = may r := ⟨_, rfl⟩
  rw [← hm'] at hm ⊢
  have HM := Lib.hid hm'
  clear h hv hp hg hm' e1
  go_enter Tryz.func12, Tryz.ntmps12
  go_wp2_with (first
    | (go_at_call 20; refine (mayX_any r _ _ (Hv.out.pu P2.out) Hp.out (Hg.out.pu P2.out)).mono ?_; rw [← HM.out]; rintro x w3 ⟨rfl, hb3⟩; have q3 : w3.cell? ⟨w.heap.size, 1, none⟩ = some (.int .i64 r.num) := cell_of_blk ((hb3.block _ (lt_of_blk B1.out)).trans B1.out); have HB3 := Lib.hid hb3; clear hb3)
    | (go_at_call 44; refine (fail_any r.num m (-1) 0 _ (by omega)).mono ?_; rintro x w4 ⟨rv, rfl, hs4, hb4⟩; obtain ⟨ra, rc, rfl⟩ := hs4.len; have HS4 := Lib.hid hs4; have HB4 := Lib.hid hb4; clear hs4 hb4)
    | (refine wpl_store_whole rfl 34 (.tmp 4) (.tmp 16) rfl (w.heap.size + 1) _ rfl rfl _ _ (((HB3.out.tr HB4.out).block _ (lt_of_blk B2.out)).trans B2.out) (by rfl) sizeReply (rep_one _ _ _ _) ?_; intro w9 hB9 hF9 hs9))
  have B4 := ((HB3.out.tr HB4.out).block _ (lt_of_blk B2.out)).trans B2.out
  refine bodyPost_ret (v := .agg (repCells (failRep r.num m (-1) 0) (.slice ra _ rc)).toArray) (results_cell Tryz.results12 rfl hB9 _ Tryz.underlying34 rfl sizeReply) rfl ?_
  have hp9 := pu_of_fr (P2.out.tr (HB3.out.tr HB4.out)) hF9 (by omega)
  exact ⟨_, rfl, SlR.block_kept HS4.out B4 (by decide) (by decide) hF9, PartStep.refl H.out hp9⟩

theorem pu_drew1 (w : World) : Pu w w.drew := ⟨rfl, rfl, rfl, Nat.le_refl _, fun _ _ => rfl⟩

/-- What touches no block of the part keeps it. -/
theorem PartIn.keep {M : Nat → Prop} (h : PartIn w pb A P) (hf : Fr M w w') (hM : ∀ b, PFoot pb A P b → ¬ M b) (hs : ∀ (i : Nat) (c : Array Value) (t : TypeId) (fr : Nat × Nat), w.heap[i]? = some (.cells c t fr) → t = 9 ∨ t = 50 → ¬ M i) : PartIn w' pb A P :=
  ⟨(hf.keep pb (lt_of_blk h.box) (hM _ (.inr (.inl rfl)))).trans h.box, h.tree.fr hf (fun b hb => hM b (.inl hb)) (fun i c fr hi => hs i c _ fr hi (.inl rfl)), h.locks.fr hf (hM _ (.inr (.inr (.inl rfl)))) (hM _ (.inr (.inr (.inr (.inl rfl))))),
    h.wait.fr hf (hM _ (.inr (.inr (.inr (.inr (.inl rfl)))))), h.dec.fr hf (hM _ (.inr (.inr (.inr (.inr (.inr (.inl rfl))))))), h.clo.fr hf (hM _ (.inr (.inr (.inr (.inr (.inr (.inr rfl))))))), ops_keep h.ops hf fun b c fr hb => hs b c _ fr hb (.inr rfl), h.ne⟩
/-- A block of the caller's own, written behind a step. -/
theorem PartStep.around {P' : PartD} {w5 w6 : World} {x : Nat} {c : Array Value} {t : TypeId} {fr : Nat × Nat} (hs : PartStep w pb A P P' w5) (hf : Fr (fun b => b = x) w5 w6) (hx : w.heap.size ≤ x) (hc : w5.heap[x]? = some (.cells c t fr))
    (ht : t ≠ 117 ∧ t ≠ 124 ∧ t ≠ 89 ∧ t ≠ 152 ∧ t ≠ 9 ∧ t ≠ 50) : PartStep w pb A P P' w6 := by
  obtain ⟨A2, p2, f2, o2⟩ := hs
  obtain ⟨t1, t2, t3, t4, t5, t6⟩ := ht
  refine ⟨A2, p2.keep hf (fun b hb e => ?_) (fun i c' t' fr' hi ht' e => ?_), f2.trans hf fun y hy e => by omega, o2⟩
  · subst e
    rcases p2.kind hb hc with h | h | h | h
    · exact t1 h
    · exact t2 h
    · exact t3 h
    · exact t4 h
  · subst e
    rw [hc] at hi; cases hi
    rcases ht' with h | h
    · exact t5 h
    · exact t6 h
/-- The slice lies in no block of the part's. -/
def OpSep (pb : Nat) (A : PL) (P : PartD) (v : Value) : Prop := ∀ a k c, v = .slice (some a) k c → ¬ PFoot pb A P a.block
theorem OpSep.typed {v : Value} {l : List OpD} (h : PartIn w pb A P) (hv : SlO 50 w v l) : OpSep pb A P v := fun a k c e hm => by
  obtain ⟨_, ⟨e2, _⟩ | ⟨b, off, cap, cs, fr, e2, _, hb, _⟩⟩ := hv
  · rw [e] at e2; cases e2
  · rw [e] at e2; cases e2
    rcases h.kind hm hb with h | h | h | h <;> (revert h; decide)
/-- Ops of the caller's are as they were behind a step of the part's. -/
theorem PartIn.ops_of {tO : TypeId} {v : Value} {l : List OpD} (_ : PartIn w pb A P) (hf : Fr (PFoot pb A P) w w') (hs : OpSep pb A P v) (hv : SlO tO w v l) : SlO tO w' v l :=
  Sl.keep1 hv hf hs
/-- Any cells of the caller's. -/
theorem PartIn.cells_of (h : PartIn w pb A P) (hf : Fr (PFoot pb A P) w w') {b : Nat} {c : Array Value} {t : TypeId} {fr : Nat × Nat} (hb : w.heap[b]? = some (.cells c t fr)) (ht : t ≠ 117 ∧ t ≠ 124 ∧ t ≠ 89 ∧ t ≠ 152) : w'.heap[b]? = some (.cells c t fr) :=
  (hf.keep b (lt_of_blk hb) fun hm => by
    rcases h.kind hm hb with h | h | h | h
    · exact ht.1 h
    · exact ht.2.1 h
    · exact ht.2.2.1 h
    · exact ht.2.2.2 h).trans hb

/-- The number counted up, in memory. -/
structure Counted (w : World) (pb : Nat) (A : PL) (P : PartD) (w4 : World) : Prop where
  part : PartIn w4 pb A { P with zxid := P.zxid + 1 }
  fr : Fr (PFoot pb A P) w w4

set_option maxHeartbeats 4000000 in
set_option maxRecDepth 100000 in
theorem local_ok {N : Nat} {tO : TypeId} (r : Req) (v : Value) (w : World) (h : PartIn w pb A P) (ho : PartOk N P) (hN : N ≤ 500) (hv : SlO tO w v r.ops) (hsep : OpSep pb A P v) (hg : Gl w) (hlow : ∀ b, PFoot pb A P b → gB ≤ b) (hi : i64 r.sess) (hm : may r = 0) :
    Calls Tryz.prog 12 #[.pointer (some ⟨pb, 0, none⟩), .agg #[.int .i64 r.sess, .int .i64 r.num, v]] w (LocalR w pb A P (localP P r)) := by
  obtain ⟨m1, m2, m3, m4, m5, m6⟩ := may_ok hm
  obtain ⟨b, hb⟩ : ∃ b, b = busyP P 0 r.sess r.ops := ⟨_, rfl⟩
  have e1 : localP P r = if b.1 ≠ 0 then ({ P with zxid := P.zxid + 1 }, { failRep r.num b.1 b.2 r.ops.length with zxid := P.zxid + 1 }) else ({ P with zxid := P.zxid + 1, tree := (multiReq P.tree r (P.zxid + 1)).1 }, (multiReq P.tree r (P.zxid + 1)).2) := by
    rw [hb, localP, if_neg (by simp [hm])]
  rw [e1]
  obtain ⟨a, cap, rfl, hc⟩ := hv.len
  have z0 := ho.z0
  have z1 := ho.z1
  have H := Lib.hid h
  have P2 := Lib.hid ((pu_alloc w (.cells #[.int .i64 r.sess, .int .i64 r.num, .slice a r.ops.length cap] 37)).tr (pu_alloc _ (.cells zeroRep 34)))
  have B1 := Lib.hid (al2a w (.cells #[.int .i64 r.sess, .int .i64 r.num, .slice a r.ops.length cap] 37) (.cells zeroRep 34))
  have B2 := Lib.hid (al2b w (.cells #[.int .i64 r.sess, .int .i64 r.num, .slice a r.ops.length cap] 37) (.cells zeroRep 34))
  have Hv := Lib.hid hv
  have Hg := Lib.hid hg
  have Ho := Lib.hid ho
  have Hlow := Lib.hid hlow
  have HM := Lib.hid hm
  have HPth : Hid (∀ o ∈ r.ops, o.path.length ≤ 1000000) := Lib.hid (fun o ho => by have := good_len (m6 o ho); omega)
  have HGood := Lib.hid m6
  have HSep := Lib.hid hsep
  have Hbz : Hid (busyP { P with zxid := P.zxid + 1 } 0 r.sess r.ops = b) := Lib.hid hb.symm
  have hpbl : pb < w.heap.size := lt_of_blk h.box
  clear h hv hg hm ho hlow m5 m6 hb e1 hsep
  obtain ⟨b1, b2⟩ := b
  simp only
  have step : Hid (∀ w3 : World, Pu w w3 → w3.heap[w.heap.size]? = some (.cells #[.int .i64 r.sess, .int .i64 r.num, .slice a r.ops.length cap] 37 (0, 0)) → w3.heap[w.heap.size + 1]? = some (.cells zeroRep 34 (0, 0)) →
      Counted w pb A P (w3.setCell ⟨pb, 3, none⟩ (.int .i64 (P.zxid + 1))) ∧ Gl (w3.setCell ⟨pb, 3, none⟩ (.int .i64 (P.zxid + 1))) ∧ SlO tO (w3.setCell ⟨pb, 3, none⟩ (.int .i64 (P.zxid + 1))) (.slice a r.ops.length cap) r.ops ∧
      (w3.setCell ⟨pb, 3, none⟩ (.int .i64 (P.zxid + 1))).heap[w.heap.size]? = some (.cells #[.int .i64 r.sess, .int .i64 r.num, .slice a r.ops.length cap] 37 (0, 0)) ∧ (w3.setCell ⟨pb, 3, none⟩ (.int .i64 (P.zxid + 1))).heap[w.heap.size + 1]? = some (.cells zeroRep 34 (0, 0)) ∧
      w3.cell? ⟨pb, 3, none⟩ = some (.int .i64 P.zxid) ∧ w3.frozen? ⟨pb, 3, none⟩ = false) := Lib.hid fun w3 hp k1 k2 => by
    have h3 := H.out.pu hp
    obtain ⟨h4, f4⟩ := h3.set_zxid (P.zxid + 1)
    have F4 : Fr (PFoot pb A P) w (w3.setCell ⟨pb, 3, none⟩ (.int .i64 (P.zxid + 1))) := (Fr.of_below (M := PFoot pb A P) hp).trans f4 fun _ _ h => h
    exact ⟨⟨h4, F4⟩, Hg.out.fr F4 Hlow.out, h3.ops_of f4 HSep.out (Hv.out.pu hp), h3.cells_of f4 k1 (by decide), h3.cells_of f4 k2 (by decide), h3.cells.2.2.2.1, frozen_of_blk h3.box⟩
  by_cases hb0 : b1 = 0
  · subst hb0
    rw [if_neg (by simp)]
    have zz : (0 : Int) ≤ P.zxid + 1 := by omega
    obtain ⟨M, hM⟩ : ∃ M, M = multiReq P.tree r (P.zxid + 1) := ⟨_, rfl⟩
    rw [← hM]
    have HMd := Lib.hid hM
    clear hM
    go_enter Tryz.func12, Tryz.ntmps12
    go_wp2_with (first
      | (go_at_call 20; refine (may_any r _ _ (Hv.out.pu P2.out) HPth.out (Hg.out.pu P2.out)).mono ?_; rw [HM.out]; rintro x w3 ⟨rfl, hb3⟩; have hr3 := (hb3.block _ (lt_of_blk B1.out)).trans B1.out; obtain ⟨s1, s2, s3, s4, s5, s6, s7⟩ := step.out w3 (P2.out.tr hb3) hr3 ((hb3.block _ (lt_of_blk B2.out)).trans B2.out); have q0 : w3.cell? ⟨w.heap.size, 0, none⟩ = some (.int .i64 r.sess) := cell_of_blk hr3; have q2 : w3.cell? ⟨w.heap.size, 2, none⟩ = some (.slice a r.ops.length cap) := cell_of_blk hr3; have S1 := Lib.hid s1; have S2 := Lib.hid s2; have S3 := Lib.hid s3; have S4 := Lib.hid s4; have S5 := Lib.hid s5; have hz3 := (P2.out.tr hb3).size; clear s1 s2 s3 s4 s5 hr3 hb3)
      | (go_at_call 45; refine (busy_any 0 r.sess r.ops _ _ S1.out.part Ho.out.count (by omega) S2.out S3.out m4 HGood.out hi m3).mono ?_; rintro x w5 ⟨hx, hb5⟩; rw [Hbz.out] at hx; subst hx; have R5 := (hb5.block _ (lt_of_blk S4.out)).trans S4.out; have q0 : w5.cell? ⟨w.heap.size, 0, none⟩ = some (.int .i64 r.sess) := cell_of_blk R5; have q1 : w5.cell? ⟨w.heap.size, 1, none⟩ = some (.int .i64 r.num) := cell_of_blk R5; have q3 : w5.cell? ⟨w.heap.size, 2, none⟩ = some (.slice a r.ops.length cap) := cell_of_blk R5; obtain ⟨_, g1, _, g3, _, _, _⟩ := ((S1.out.part).pu hb5).cells; have hpb5 := lt_of_blk ((S1.out.part).pu hb5).box; have hsz5 : w.heap.size + 1 < w5.heap.size := Nat.lt_of_lt_of_le (lt_of_blk S5.out) hb5.size; have O5 := Lib.hid ((hb5.block _ (lt_of_blk S5.out)).trans S5.out); have HB5 := Lib.hid hb5; clear hb5 R5))
    go_still_tail 9, (by kernel_rfl)
    change wpList _ _ _ _ _ w5.drew
    have HB6 := Lib.hid (HB5.out.tr (pu_drew1 w5))
    have hlow6 : ∀ b, Foot A.tp A.mp A.nb P.tree b → gB ≤ b := fun b hb => Hlow.out b (.inl hb)
    have Hlow6 := Lib.hid hlow6
    clear hlow6
    go_wp2_with (first
      | (go_at_call 46; refine (request_any r (P.zxid + 1) _ _ (S1.out.part.pu HB6.out).tree Ho.out.tree (S3.out.pu HB6.out) (by omega) HPth.out (S2.out.pu HB6.out)).mono ?_; rw [← HMd.out]; rintro x w7 ⟨rv, mp7, nb7, rfl, hs7, ht7, hf7, hF7⟩; obtain ⟨ra, rc, rfl⟩ := hs7.len; have K7 := Lib.hid (PartIn.tree_step (S1.out.part.pu HB6.out) ht7 hf7 (fun b hb => .inl hb) hF7); have O7 := Lib.hid (PartIn.cells_of (S1.out.part.pu HB6.out) (hf7.mono fun b _ hb => .inl (.inl hb)) ((HB6.out.block _ (lt_of_blk S5.out)).trans S5.out) (by decide)); have HS7 := Lib.hid hs7; clear hs7 ht7 hf7 hF7)
      | (refine wpl_store_whole rfl 34 (.tmp 4) (.tmp 58) rfl (w.heap.size + 1) (repCells M.2 (.slice ra M.2.results.length rc)).toArray rfl rfl _ _ O7.out (by rfl) sizeReply (rep_one _ _ _ _) ?_; intro w9 hB9 hF9 hs9))
    refine bodyPost_ret (v := .agg (repCells M.2 (.slice ra M.2.results.length rc)).toArray) (results_cell Tryz.results12 rfl hB9 _ Tryz.underlying34 rfl sizeReply) rfl ?_
    have k0 : PartStep w pb A P { P with zxid := P.zxid + 1 } _ := PartStep.pu ⟨A, S1.out.part, S1.out.fr, fun b hb => .inl hb⟩ HB6.out
    have k1 := PartStep.then H.out (S1.out.part.pu HB6.out) (S1.out.fr.trans (Fr.of_below (M := fun _ => False) HB6.out) fun _ _ h => h.elim) (fun b hb => .inl hb) K7.out
    exact ⟨_, rfl, SlR.block_kept HS7.out O7.out (by decide) (by decide) hF9, k1.around hF9 (by omega) O7.out (by decide)⟩
  · rw [if_pos hb0]
    have zb1 : (b1 == 0) = false := by simpa using hb0
    have zb2 : (b1 != 0) = true := by simpa using hb0
    have zb3 : decide (b1 = 0) = false := by simpa using hb0
    clear hb0
    go_enter Tryz.func12, Tryz.ntmps12
    go_wp2_with (first
      | (go_at_call 20; refine (may_any r _ _ (Hv.out.pu P2.out) HPth.out (Hg.out.pu P2.out)).mono ?_; rw [HM.out]; rintro x w3 ⟨rfl, hb3⟩; have hr3 := (hb3.block _ (lt_of_blk B1.out)).trans B1.out; obtain ⟨s1, s2, s3, s4, s5, s6, s7⟩ := step.out w3 (P2.out.tr hb3) hr3 ((hb3.block _ (lt_of_blk B2.out)).trans B2.out); have q0 : w3.cell? ⟨w.heap.size, 0, none⟩ = some (.int .i64 r.sess) := cell_of_blk hr3; have q2 : w3.cell? ⟨w.heap.size, 2, none⟩ = some (.slice a r.ops.length cap) := cell_of_blk hr3; have S1 := Lib.hid s1; have S2 := Lib.hid s2; have S3 := Lib.hid s3; have S4 := Lib.hid s4; have S5 := Lib.hid s5; have hz3 := (P2.out.tr hb3).size; clear s1 s2 s3 s4 s5 hr3 hb3)
      | (go_at_call 45; refine (busy_any 0 r.sess r.ops _ _ S1.out.part Ho.out.count (by omega) S2.out S3.out m4 HGood.out hi m3).mono ?_; rintro x w5 ⟨hx, hb5⟩; rw [Hbz.out] at hx; subst hx; have R5 := (hb5.block _ (lt_of_blk S4.out)).trans S4.out; have q1 : w5.cell? ⟨w.heap.size, 1, none⟩ = some (.int .i64 r.num) := cell_of_blk R5; have q3 : w5.cell? ⟨w.heap.size, 2, none⟩ = some (.slice a r.ops.length cap) := cell_of_blk R5; have O5 := Lib.hid ((hb5.block _ (lt_of_blk S5.out)).trans S5.out); have HB5 := Lib.hid hb5; clear hb5 R5)
      | (go_at_call 44; refine (fail_any r.num b1 b2 r.ops.length _ (by omega)).mono ?_; rintro x w6 ⟨rv, rfl, hs6, hb6⟩; obtain ⟨ra, rc, rfl⟩ := hs6.len; obtain ⟨_, _, _, g3, _, _, _⟩ := (((S1.out.part).pu (HB5.out.tr hb6))).cells; have hpb6 := lt_of_blk (((S1.out.part).pu (HB5.out.tr hb6))).box; have hsz6 : w.heap.size + 1 < w6.heap.size := Nat.lt_of_lt_of_le (lt_of_blk O5.out) hb6.size; have O6 := Lib.hid ((hb6.block _ (lt_of_blk O5.out)).trans O5.out); have HS6 := Lib.hid hs6; have HB6 := Lib.hid hb6; clear hs6 hb6)
      | (refine wpl_store_whole rfl 34 (.tmp 4) (.tmp 48) rfl (w.heap.size + 1) (repCells { failRep r.num b1 b2 r.ops.length with zxid := P.zxid + 1 } (.slice ra (failRep r.num b1 b2 r.ops.length).results.length rc)).toArray rfl rfl _ _ (al_old _ _ O6.out) (by rfl) sizeReply (rep_one _ _ _ _) ?_; intro w9 hB9 hF9 hs9))
    refine bodyPost_ret (v := .agg (repCells { failRep r.num b1 b2 r.ops.length with zxid := P.zxid + 1 } (.slice ra (failRep r.num b1 b2 r.ops.length).results.length rc)).toArray) (results_cell Tryz.results12 rfl hB9 _ Tryz.underlying34 rfl sizeReply) rfl ?_
    have O8 := al_old w6 (.cells (repCells { failRep r.num b1 b2 r.ops.length with zxid := P.zxid + 1 } (.slice ra (failRep r.num b1 b2 r.ops.length).results.length rc)).toArray 34) O6.out
    have k2 : PartStep w pb A P { P with zxid := P.zxid + 1 } _ := PartStep.pu (PartStep.pu ⟨A, S1.out.part, S1.out.fr, fun b hb => .inl hb⟩ (HB5.out.tr HB6.out)) (pu_alloc w6 (.cells (repCells { failRep r.num b1 b2 r.ops.length with zxid := P.zxid + 1 } (.slice ra (failRep r.num b1 b2 r.ops.length).results.length rc)).toArray 34))
    have s2 := HS6.out.pu (pu_alloc w6 (.cells (repCells { failRep r.num b1 b2 r.ops.length with zxid := P.zxid + 1 } (.slice ra (failRep r.num b1 b2 r.ops.length).results.length rc)).toArray 34))
    exact ⟨_, rfl, SlR.block_kept s2 O8 (by decide) (by decide) hF9, k2.around hF9 (by omega) O8 (by decide)⟩

theorem local_any {N : Nat} (r : Req) (v : Value) (w : World) (h : PartIn w pb A P) (ho : PartOk N P) (hN : N ≤ 500) (hv : SlX w v r.ops) (hsep : 0 < r.ops.length → OpSep pb A P v) (hp : ∀ o ∈ r.ops, o.path.length ≤ 1000000) (hg : Gl w) (hlow : ∀ b, PFoot pb A P b → gB ≤ b) (hi : i64 r.sess) :
    Calls Tryz.prog 12 #[.pointer (some ⟨pb, 0, none⟩), .agg #[.int .i64 r.sess, .int .i64 r.num, v]] w (LocalR w pb A P (localP P r)) := by
  by_cases hm : may r = 0
  · obtain ⟨_, _, m3, _⟩ := may_ok hm
    obtain ⟨t, hv'⟩ := hv.real m3
    exact local_ok r v w h ho hN hv' (hsep m3) hg hlow hi hm
  · exact local_bad r v w h hv hp hg hm

end Go.Proofs.YtmigbgfgnhkmnaaGreatDoor

/- Package part: Prepare. -/
namespace Go.Proofs.YtmigbgfgnhkmnaaGreatDoor
open Go.RowKit Go.Av Go.Maps Go.Sort

attribute [local go_sem ↓] Go.wp_at_zero Go.wp_at_succ
attribute [local go_sem] run_makeMap

variable {w w' : World} {pb : Nat} {A : PL} {P : PartD}

theorem infoOp : (Tryz.prog.info? 50).map (fun i => (i.zero, i.size, i.bytes)) = some (some (.agg #[.int .i64 0, .string ⟨#[]⟩, .string ⟨#[]⟩, .int .i64 0, .int .i64 0]), 5, 56) := by kernel_rfl
theorem ocells_one (l : List OpD) : ∀ u ∈ ocells l, u.oneCell' = true := by
  intro u hu
  obtain ⟨o, _, h⟩ := List.mem_flatMap.1 hu
  simp only [OpD.cells, List.mem_cons, List.not_mem_nil, or_false] at h
  rcases h with rfl | rfl | rfl | rfl | rfl <;> rfl
set_option maxRecDepth 100000 in
theorem cloneOps_any {tO : TypeId} (l : List OpD) (v : Value) (w : World) (h : SlO tO w v l) (h0 : 0 < l.length) (hl : l.length ≤ 1000000) :
    Calls Tryz.prog 52 #[v] w fun e w' => ∃ v', e = .returned v' ∧ SlO 50 w' v' l ∧ Pu w w' := by
  obtain ⟨i0, hi, hz0, hz1, hz2⟩ := info_parts infoOp
  have h' := h
  obtain ⟨h1, ⟨_, h2⟩ | ⟨b, off, cap, c, fr, rfl, a2, a3, a4, a5⟩⟩ := h
  · omega
  refine (AnyE.slices_Clone Tryz.laysCloneOp i0 _ 5 56 hi hz0 hz1 hz2 rfl (by decide) (fun w => rfl) b off l.length cap (ocells l) w h1 (by unfold maxLen; omega) (by omega) (fun j u hu => ?_) (ocells_one l)).mono ?_
  · have hj : j < (ocells l).length := (List.getElem?_eq_some_iff.1 hu).1
    rw [cell_of_blk a3, a5 j hj]; exact hu
  · rintro e w' ⟨v', rfl, ho, _, hp⟩
    exact ⟨v', rfl, Sl.of_own ho, hp⟩

/-- Take, whatever it answers. -/
theorem takeS_any (lb mb : Nat) (L : LocksD) (who : Int) (l : List Str) (v : Value) (w : World) (h : LocksAt w lb mb L) (ho : LocksOk L) (hv : SlS 9 w v l) (hl : ∀ p ∈ l, p.length ≤ 1000000) (hn : L.length + l.length ≤ 1000000) (hg : Gl w) :
    Calls Tryz.prog 50 #[.pointer (some ⟨lb, 0, none⟩), .int .i64 who, v] w fun e w' => (∃ x, e = .returned x) ∧ LocksAt w' lb mb (takeS L who l) ∧ Fr (fun b => b = mb) w w' := by
  refine (take_any lb mb L who l v w h ho hv hl hn hg).mono ?_
  intro e w' ht
  unfold TakeR at ht
  unfold takeS
  split at ht
  · rename_i p hp
    rw [hp]
    obtain ⟨rfl, hp⟩ := ht
    exact ⟨⟨_, rfl⟩, h.pu hp, Fr.of_below hp⟩
  · rename_i hp
    rw [hp]
    obtain ⟨rfl, h1, h2⟩ := ht
    exact ⟨⟨_, rfl⟩, h1, h2⟩

/-- What Prepare answers. -/
def PrepR (w : World) (pb : Nat) (A : PL) (P : PartD) (a : PartD × (Int × Int)) (e : Ending) (w' : World) : Prop :=
  e = .returned (.tuple #[.int .i64 a.2.1, .int .i64 a.2.2]) ∧ PartStep w pb A P a.1 w'
theorem PrepR.of {a b : PartD × (Int × Int)} {e : Ending} (hb : b = a) (he : e = .returned (.tuple #[.int .i64 a.2.1, .int .i64 a.2.2])) (hs : PartStep w pb A P a.1 w') : PrepR w pb A P b e w' := by
  subst hb; exact ⟨he, hs⟩

set_option maxHeartbeats 2000000 in
set_option maxRecDepth 100000 in
theorem prepare_no {N : Nat} (id sess : Int) (l : List OpD) (v : Value) (w : World) (h : PartIn w pb A P) (ho : PartOk N P) (hN : N ≤ 500) (hv : SlX w v l) (hp : ∀ o ∈ l, o.path.length ≤ 1000000) (hg : Gl w) (hi : i64 id) (hs : i64 sess)
    (hbad : knownB P id sess = true ∨ may ⟨sess, 1, l⟩ ≠ 0 ∨ (busyP P id sess l).1 ≠ 0) :
    Calls Tryz.prog 13 #[.pointer (some ⟨pb, 0, none⟩), .int .i64 id, .int .i64 sess, v] w (PrepR w pb A P (prepareP P id sess l)) := by
  have H := Lib.hid h; have Ho := Lib.hid ho; have Hv := Lib.hid hv; have Hp := Lib.hid hp; have Hg := Lib.hid hg; have Hi := Lib.hid hi; have Hs := Lib.hid hs
  clear h ho hv hp hg hi hs
  obtain ⟨a, cap, rfl⟩ := Hv.out.len
  cases hk : knownB P id sess
  · obtain ⟨m, hm⟩ : ∃ m, m = may ⟨sess, 1, l⟩ := ⟨_, rfl⟩
    rw [hk, ← hm] at hbad
    have Hk := Lib.hid hk; have Hm := Lib.hid hm
    by_cases hm0 : m = 0
    · have hb1 : (busyP P id sess l).1 ≠ 0 := by
        rcases hbad with h | h | h
        · cases h
        · exact absurd hm0 h
        · exact h
      obtain ⟨b, hb⟩ : ∃ b, b = busyP P id sess l := ⟨_, rfl⟩
      have e1 : prepareP P id sess l = (P, b) := by
        unfold prepareP
        rw [if_neg (by rw [hk]; simp), ← hm, if_neg (by simp [hm0])]
        simp only; rw [if_pos hb1, hb]
      rw [← hb] at hb1
      have HB := Lib.hid hb
      have HE := Lib.hid e1
      obtain ⟨b1, b2⟩ := b
      simp only at hb1
      have zb1 : (b1 == 0) = false := by simpa using hb1
      have zb2 : (b1 != 0) = true := by simpa using hb1
      have zb3 : decide (b1 = 0) = false := by simpa using hb1
      obtain ⟨m1, m2, m3, m4, m5, m6⟩ := may_ok (hm.symm.trans hm0)
      have HGood := Lib.hid m6
      obtain ⟨tO, hvr⟩ := Hv.out.real m3
      have HVr := Lib.hid hvr
      subst hm0
      clear hk hm hbad hb e1 hb1 m5 m6 m1 m2 hvr
      go_enter Tryz.func13, Tryz.ntmps13
      go_wp2_with (first
        | (go_at_call 47; refine (known_any id sess _ H.out Hi.out).mono ?_; rw [Hk.out]; rintro e w1 ⟨rfl, hb1⟩; have HB1 := Lib.hid hb1; clear hb1)
        | (go_at_call 20; refine (mayX_any ⟨sess, 1, l⟩ _ _ (Hv.out.pu HB1.out) Hp.out (Hg.out.pu HB1.out)).mono ?_; rw [← Hm.out]; rintro e w2 ⟨rfl, hb2⟩; have HB2 := Lib.hid (HB1.out.tr hb2); clear hb2)
        | (go_at_call 45; refine (busy_any id sess l _ _ (H.out.pu HB2.out) Ho.out (by omega) (Hg.out.pu HB2.out) (HVr.out.pu HB2.out) m4 HGood.out Hs.out m3).mono ?_; rintro e w3 ⟨hx, hb3⟩; rw [← HB.out] at hx; subst hx; have HB3 := Lib.hid (HB2.out.tr hb3); clear hb3))
      go_ret2
      exact PrepR.of HE.out rfl (PartStep.refl H.out HB3.out)
    · have e1 : prepareP P id sess l = (P, (m, -1)) := by
        unfold prepareP
        rw [if_neg (by rw [hk]; simp), ← hm, if_pos hm0]
      have HE := Lib.hid e1
      have zb1 : (m == 0) = false := by simpa using hm0
      have zb2 : (m != 0) = true := by simpa using hm0
      have zb3 : decide (m = 0) = false := by simpa using hm0
      clear hk hm hbad e1 hm0
      go_enter Tryz.func13, Tryz.ntmps13
      go_wp2_with (first
        | (go_at_call 47; refine (known_any id sess _ H.out Hi.out).mono ?_; rw [Hk.out]; rintro e w1 ⟨rfl, hb1⟩; have HB1 := Lib.hid hb1; clear hb1)
        | (go_at_call 20; refine (mayX_any ⟨sess, 1, l⟩ _ _ (Hv.out.pu HB1.out) Hp.out (Hg.out.pu HB1.out)).mono ?_; rw [← Hm.out]; rintro e w2 ⟨rfl, hb2⟩; have HB2 := Lib.hid (HB1.out.tr hb2); clear hb2))
      go_ret2
      exact PrepR.of HE.out rfl (PartStep.refl H.out HB2.out)
  · have e1 : prepareP P id sess l = (P, (1, -1)) := by unfold prepareP; rw [if_pos hk]
    have HE := Lib.hid e1
    have Hk := Lib.hid hk
    clear hk e1 hbad
    go_enter Tryz.func13, Tryz.ntmps13
    go_wp2_with (go_at_call 47; refine (known_any id sess _ H.out Hi.out).mono ?_; rw [Hk.out]; rintro e w1 ⟨rfl, hb1⟩; have HB1 := Lib.hid hb1; clear hb1)
    go_ret2
    exact PrepR.of HE.out rfl (PartStep.refl H.out HB1.out)

end Go.Proofs.YtmigbgfgnhkmnaaGreatDoor

/- Package part: Prepare, what is foreseen. -/
namespace Go.Proofs.YtmigbgfgnhkmnaaGreatDoor
open Go.RowKit Go.Av Go.Maps Go.Sort

attribute [local go_sem ↓] Go.wp_at_zero Go.wp_at_succ
attribute [local go_sem] run_makeMap

variable {w w' : World} {pb : Nat} {A : PL} {P : PartD}

theorem drew_size (W : World) : W.drew.heap.size = W.heap.size := rfl
theorem al1_drew (w : World) (o : Obj) : (w.alloc o).drew.heap[w.heap.size]? = some o := al1 w o
theorem do_after {t : TypeId} {W w6 : World} {ctp rb : Nat} {c : Array Value} (hf : Fr (fun b => b = ctp) W w6) (hz : W.heap[rb]? = some (.cells c t (0, 0))) (hne : rb ≠ ctp) : w6.heap[rb]? = some (.cells c t (0, 0)) := (hf.keep rb (lt_of_blk hz) hne).trans hz
theorem five {b : Nat} {x0 x1 x2 x3 x4 : Value} {t : TypeId} (h : w.heap[b]? = some (.cells #[x0, x1, x2, x3, x4] t (0, 0))) (v0 v1 v2 v3 v4 : Value) :
    (((((w.setCell ⟨b, 0, none⟩ v0).setCell ⟨b, 1, none⟩ v1).setCell ⟨b, 2, none⟩ v2).setCell ⟨b, 3, none⟩ v3).setCell ⟨b, 4, none⟩ v4).heap[b]? = some (.cells #[v0, v1, v2, v3, v4] t (0, 0)) := by
  have h0 := setCell_blk h 0 v0
  have h1 := setCell_blk h0 1 v1
  have h2 := setCell_blk h1 2 v2
  have h3 := setCell_blk h2 3 v3
  have h4 := setCell_blk h3 4 v4
  simpa using h4
theorem five_pu {w0 : World} (hp : Pu w0 w) {b : Nat} (hb : w0.heap.size ≤ b) (v0 v1 v2 v3 v4 : Value) :
    Pu w0 (((((w.setCell ⟨b, 0, none⟩ v0).setCell ⟨b, 1, none⟩ v1).setCell ⟨b, 2, none⟩ v2).setCell ⟨b, 3, none⟩ v3).setCell ⟨b, 4, none⟩ v4) :=
  pu_of_fr hp (fr_set (b := b) (fr_set (fr_set (fr_set (fr_set (Fr.refl _ _) _ _) _ _) _ _) _ _) _ _) hb
/-- A block of five, cell by cell. -/
theorem cells5 {b : Nat} {x0 x1 x2 x3 x4 : Value} {t : TypeId} (h : w.heap[b]? = some (.cells #[x0, x1, x2, x3, x4] t (0, 0))) :
    w.cell? ⟨b, 0, none⟩ = some x0 ∧ w.cell? ⟨b, 1, none⟩ = some x1 ∧ w.cell? ⟨b, 2, none⟩ = some x2 ∧ w.cell? ⟨b, 3, none⟩ = some x3 ∧ w.cell? ⟨b, 4, none⟩ = some x4 ∧
    w.frozen? ⟨b, 0, none⟩ = false ∧ w.frozen? ⟨b, 1, none⟩ = false ∧ w.frozen? ⟨b, 2, none⟩ = false ∧ w.frozen? ⟨b, 3, none⟩ = false ∧ w.frozen? ⟨b, 4, none⟩ = false :=
  ⟨cell_of_blk h, cell_of_blk h, cell_of_blk h, cell_of_blk h, cell_of_blk h, frozen_of_blk h, frozen_of_blk h, frozen_of_blk h, frozen_of_blk h, frozen_of_blk h⟩

theorem SlO.at {tO : TypeId} {b off n cap : Nat} {l : List OpD} (h : SlO tO w (.slice (some ⟨b, off, none⟩) n cap) l) (k : Nat) (hk : k < l.length) :
    w.cell? ⟨b, off + k * 5, none⟩ = some (.int .i64 l[k].kind) ∧ w.cell? ⟨b, off + k * 5 + 1, none⟩ = some (.string (mkB l[k].path)) ∧ w.cell? ⟨b, off + k * 5 + 2, none⟩ = some (.string (mkB l[k].data)) ∧
      w.cell? ⟨b, off + k * 5 + 3, none⟩ = some (.int .i64 l[k].version) ∧ w.cell? ⟨b, off + k * 5 + 4, none⟩ = some (.int .i64 l[k].flags) := by
  obtain ⟨b', off', cap', e, _, hb, hx⟩ := h.pos (by omega)
  cases e
  exact hx k hk

/-- How far Prepare has come with the locks. -/
structure Preparing (w : World) (pb : Nat) (A : PL) (P : PartD) (id : Int) (l : List OpD) (rb : Nat) (c : Array Value) (k : Nat) (wr : World) : Prop where
  part : PartIn wr pb A { P with locks := takeOps P.locks id (l.take k) }
  fr : Fr (PFoot pb A P) w wr
  rep : wr.heap[rb]? = some (.cells c 34 (0, 0))

set_option maxHeartbeats 4000000 in
set_option maxRecDepth 100000 in
theorem prepare_yes {N : Nat} {tO : TypeId} (id sess : Int) (l : List OpD) (v : Value) (w : World) (h : PartIn w pb A P) (ho : PartOk N P) (hN : N ≤ 500) (hv : SlO tO w v l) (hsep : OpSep pb A P v) (hg : Gl w) (hlow : ∀ b, PFoot pb A P b → gB ≤ b) (hi : i64 id) (hs : i64 sess)
    (hk : knownB P id sess = false) (hm : may ⟨sess, 1, l⟩ = 0) (hb : (busyP P id sess l).1 = 0) :
    Calls Tryz.prog 13 #[.pointer (some ⟨pb, 0, none⟩), .int .i64 id, .int .i64 sess, v] w (PrepR w pb A P (prepareP P id sess l)) := by
  have H := Lib.hid h; have Ho := Lib.hid ho; have Hg := Lib.hid hg; have Hi := Lib.hid hi; have Hs := Lib.hid hs; have Hlow := Lib.hid hlow
  have Hk := Lib.hid hk; have Hm := Lib.hid hm
  obtain ⟨M, hM⟩ : ∃ M, M = multiDo P.tree sess P.zxid l := ⟨_, rfl⟩
  have e1 : prepareP P id sess l = ({ P with locks := takeOps P.locks id l, wait := aput id ⟨sess, l, false, !M.2.2⟩ P.wait }, if M.2.2 = true then (0, -1) else (M.2.1.err, M.2.1.place)) := by
    unfold prepareP
    rw [if_neg (by rw [hk]; simp), if_neg (by simp [hm])]
    simp only; rw [if_neg (by simp [hb]), hM]
  have HE := Lib.hid e1
  have HMd := Lib.hid hM
  obtain ⟨m1, m2, m3, m4, m5, m6⟩ := may_ok hm
  simp only at m3 m4 m6
  have HGood := Lib.hid m6
  have HPth : Hid (∀ o ∈ l, o.path.length ≤ 1000000) := Lib.hid (fun o ho => by have := good_len (m6 o ho); omega)
  obtain ⟨b2, hb2⟩ : ∃ b2, busyP P id sess l = (0, b2) := ⟨_, by rw [← hb]⟩
  have HB := Lib.hid hb2
  obtain ⟨a, cap, rfl, hcap⟩ := hv.len
  obtain ⟨n, hn⟩ : ∃ n, n = l.length := ⟨_, rfl⟩
  rw [← hn] at hv hcap m3 m4 hsep ⊢
  have HN := Lib.hid hn
  have Hv := Lib.hid hv
  have HSep := Lib.hid hsep
  clear h ho hv hsep hg hi hs hlow hk hm hb hM e1 m1 m2 m5 m6 hb2 hn
  go_enter Tryz.func13, Tryz.ntmps13
  go_wp2_with (first
    | (go_at_call 47; refine (known_any id sess _ H.out Hi.out).mono ?_; rw [Hk.out]; rintro e w1 ⟨rfl, hb1⟩; have HB1 := Lib.hid hb1; clear hb1)
    | (go_at_call 20; refine (may_any ⟨sess, 1, l⟩ _ _ (Hv.out.pu HB1.out) HPth.out (Hg.out.pu HB1.out)).mono ?_; rw [Hm.out]; rintro e w2 ⟨rfl, hb2⟩; have HB2 := Lib.hid (HB1.out.tr hb2); clear hb2)
    | (go_at_call 45; refine (busy_any id sess l _ _ (H.out.pu HB2.out) Ho.out (by omega) (Hg.out.pu HB2.out) (Hv.out.pu HB2.out) (by have := HN.out; omega) HGood.out Hs.out (by have := HN.out; omega)).mono ?_; rintro e w3 ⟨hx, hb3⟩; rw [HB.out] at hx; subst hx; have C9 := (H.out.pu (HB2.out.tr hb3)).cells; have g1 := C9.2.1; have g3 := C9.2.2.2.1; clear C9; have HB3 := Lib.hid (HB2.out.tr hb3); clear hb3))
  have G1 := Lib.hid (show w3.drew.cell? ⟨pb, 1, none⟩ = some (.pointer (some ⟨A.tp, 0, none⟩)) ∧ w3.drew.cell? ⟨pb, 3, none⟩ = some (.int .i64 P.zxid) from ⟨g1, g3⟩)
  have HB4 := Lib.hid (HB3.out.tr (pu_drew1 w3))
  have n0 := World.new_ne w3 _ g1
  have hsz3 : w.heap.size ≤ w3.heap.size := HB3.out.size
  go_cut [13, 14] (fun p q wx => ∃ (rb : Nat) (rv : Value), p = .pointer (some ⟨rb, 0, none⟩) ∧ q = .bool M.2.2 ∧ w.heap.size ≤ rb ∧ Hid (wx.heap[rb]? = some (.cells #[.int .i64 M.2.1.num, .int .i64 M.2.1.zxid, .int .i64 M.2.1.err, .int .i64 M.2.1.place, rv] 34 (0, 0))) ∧ Hid (Pu w wx))
  case first =>
    go_region_held3 (fun w' => w'.cell? ⟨pb, 1, none⟩ = some (.pointer (some ⟨A.tp, 0, none⟩)) ∧ w'.cell? ⟨pb, 3, none⟩ = some (.int .i64 P.zxid)) (first | with_reducible exact G1.out | with_reducible exact G5.out | with_reducible exact G6.out | go_keep)
      (first
        | (go_at_call 49; refine (copy_any _ (H.out.pu (by first | with_reducible exact HB4.out | exact (HB3.out.tr (pu_alloc _ _)).tr (pu_drew1 _))).tree Ho.out.tree).mono ?_; rintro e w5 ⟨nb5, rfl, ht5, hp5, hf5⟩; have hb5 : Pu w w5 := (by first | with_reducible exact HB4.out.tr hp5 | exact ((HB3.out.tr (pu_alloc _ _)).tr (pu_drew1 _)).tr hp5); have C9 := (H.out.pu hb5).cells; have k1 := C9.2.1; have k3 := C9.2.2.2.1; clear C9; have G5 := Lib.hid (show w5.cell? ⟨pb, 1, none⟩ = some (.pointer (some ⟨A.tp, 0, none⟩)) ∧ w5.cell? ⟨pb, 3, none⟩ = some (.int .i64 P.zxid) from ⟨k1, k3⟩); (try simp only [drew_size, World.size_alloc] at ht5); have HT5 := Lib.hid ht5; have HB5 := Lib.hid hb5; have hsz5 := hp5.size; (try simp only [drew_size, World.size_alloc] at hsz5); (try with_reducible have HZ5 := Lib.hid ((hp5.block w3.heap.size (lt_of_blk (al1_drew w3 (.cells zeroRep 34)))).trans (al1_drew w3 (.cells zeroRep 34)))); have n5 := World.new_ne w5 _ k1; have hlt5 := lt_of_blk ht5.box; (try simp only [drew_size, World.size_alloc] at hlt5); clear ht5 hp5 hb5 hf5)
        | (go_at_call 48; refine (multi_any sess P.zxid l _ _ (by first | with_reducible exact HT5.out | exact HT5.out.pu (pu_alloc _ _)) Ho.out.tree (Hv.out.pu (by first | with_reducible exact HB5.out | exact HB5.out.tr (pu_alloc _ _))) (by have := HN.out; omega) HPth.out (Hg.out.pu (by first | with_reducible exact HB5.out | exact HB5.out.tr (pu_alloc _ _)))).mono ?_; rw [← HMd.out]; rintro x w6 ⟨rv, mp6, nb6, rfl, hs6, ht6, hf6, hF6⟩; obtain ⟨ra, rc, rfl⟩ := hs6.len; have hb6 : Pu w w6 := (by first | with_reducible exact pu_of_fr HB5.out hf6 (by omega) | exact pu_of_fr (HB5.out.tr (pu_alloc _ _)) hf6 (by omega)); (try have HZ6 := Lib.hid (do_after hf6 HZ5.out (by omega))); (try with_reducible have HY6 := Lib.hid (do_after hf6 (al1 w5 (.cells zeroRep 34)) (by omega))); (try (have C6 := cells5 HZ6.out; obtain ⟨q0, q1, q2, q3, q4, f0, f1, f2, f3, f4⟩ := C6)); (try (have C6 := cells5 HY6.out; obtain ⟨q0, q1, q2, q3, q4, f0, f1, f2, f3, f4⟩ := C6)); have C9 := (H.out.pu hb6).cells; have k1 := C9.2.1; have k3 := C9.2.2.2.1; clear C9; have G6 := Lib.hid (show w6.cell? ⟨pb, 1, none⟩ = some (.pointer (some ⟨A.tp, 0, none⟩)) ∧ w6.cell? ⟨pb, 3, none⟩ = some (.int .i64 P.zxid) from ⟨k1, k3⟩); have HB6 := Lib.hid hb6; have n6 := World.new_ne w6 _ k1; clear hs6 ht6 hf6 hF6 hb6))
    all_goals
      go_wp2_with fail
      go_meet
    case rel => exact ⟨_, _, rfl, rfl, by have := HB6.out.size; omega, Lib.hid (al1 w6 _), Lib.hid (HB6.out.tr (pu_alloc _ _))⟩
    case rel => exact ⟨_, _, rfl, rfl, by omega, Lib.hid (five HY6.out _ _ _ _ _), Lib.hid (five_pu HB6.out (by omega) _ _ _ _ _)⟩
    case rel => exact ⟨_, _, rfl, rfl, by omega, Lib.hid (five HZ6.out _ _ _ _ _), Lib.hid (five_pu HB6.out (by omega) _ _ _ _ _)⟩
  case rest =>
    obtain ⟨rb, rv, rfl, rfl, hrb, HRB, HPz⟩ := hcut
    obtain ⟨rc, hrc⟩ : ∃ rc : Array Value, rc = #[.int .i64 M.2.1.num, .int .i64 M.2.1.zxid, .int .i64 M.2.1.err, .int .i64 M.2.1.place, rv] := ⟨_, rfl⟩
    have HRB2 : Hid (wc.heap[rb]? = some (.cells rc 34 (0, 0))) := Lib.hid (by rw [hrc]; exact HRB.out)
    have HRC := Lib.hid hrc
    clear HRB hrc
    obtain ⟨b, off, cap', hsl, hcap', hblt, _⟩ := Hv.out.pos (by have := HN.out; omega)
    obtain rfl : a = some ⟨b, off, none⟩ := by cases hsl; rfl
    clear hsl cap' hcap'
    have Z0 : Hid (Preparing w pb A P id l rb rc 0 wc) := Lib.hid ⟨H.out.pu HPz.out, Fr.of_below HPz.out, HRB2.out⟩
    clear g1 g3 G1
    go_wp2
    go_loopw [57] (fun vi wr => ∃ k : Nat, vi = .int .i64 k ∧ k ≤ n ∧ Hid (Preparing w pb A P id l rb rc k wr)) (fun vi _ => n - (intOf vi).toNat)
    case atStart => exact ⟨0, rfl, by omega, Z0⟩
    case round =>
      obtain ⟨k, rfl, hk, HZ⟩ := hrel
      have hlk := Ho.out.lockn
      by_cases hkn : k < n
      · have hk2 : k < l.length := by have := HN.out; omega
        have HVr := Lib.hid (H.out.ops_of HZ.out.fr HSep.out Hv.out)
        obtain ⟨x0, x1, x2, x3, x4⟩ := SlO.at HVr.out k hk2
        have hto := takeOps_succ P.locks id hk2
        obtain ⟨o, ho⟩ : ∃ o, o = l[k] := ⟨_, rfl⟩
        rw [← ho] at x0 x1 x2 x3 x4 hto
        have hgo : good o.path = true := HGood.out o (by rw [ho]; exact List.getElem_mem _)
        have hgl := good_len hgo
        have HWl := Lib.hid (wantsO_len hgo)
        have hw2 := wantsO_two o
        have hLk := takeOps_ok Ho.out.locks id (l.take k) (by have := List.length_take_le k l; omega)
        have HLo := Lib.hid hLk.1
        have hLl : (takeOps P.locks id (l.take k)).length ≤ 600000 := by have := hLk.2; have := List.length_take_le k l; omega
        have HTO := Lib.hid hto
        have hbr := lt_of_blk HZ.out.part.box
        have C9 := HZ.out.part.cells
        have c2 := C9.2.2.1
        have hblr : b < wr.heap.size := Nat.lt_of_lt_of_le hblt HZ.out.fr.size
        have P1 := Lib.hid ((pu_alloc wr (.cells #[.int .i64 o.kind, .string (mkB o.path), .string (mkB o.data), .int .i64 o.version, .int .i64 o.flags] 50)).tr (pu_drew1 _))
        have HGr := Lib.hid ((Hg.out.fr HZ.out.fr Hlow.out).pu P1.out)
        have HSS : Hid (∀ w' : World, w'.cell? ⟨pb, 2, none⟩ = some (.pointer (some ⟨A.lb, 0, none⟩)) → w'.heap[wr.heap.size]? = some (.cells #[.int .i64 o.kind, .string (mkB o.path), .string (mkB o.data), .int .i64 o.version, .int .i64 o.flags] 50 (0, 0)) → (fun (w' : World) => w'.cell? ⟨pb, 2, none⟩ = some (.pointer (some ⟨A.lb, 0, none⟩)) ∧ w'.cell? ⟨wr.heap.size, 0, none⟩ = some (.int .i64 o.kind) ∧ w'.cell? ⟨wr.heap.size, 1, none⟩ = some (.string (mkB o.path)) ∧ w'.cell? ⟨wr.heap.size, 2, none⟩ = some (.string (mkB o.data)) ∧ w'.cell? ⟨wr.heap.size, 3, none⟩ = some (.int .i64 o.version) ∧ w'.cell? ⟨wr.heap.size, 4, none⟩ = some (.int .i64 o.flags)) w') := Lib.hid fun w' h1 h2 => ⟨h1, cell_of_blk h2, cell_of_blk h2, cell_of_blk h2, cell_of_blk h2, cell_of_blk h2⟩
        have B0 := Lib.hid (al1_drew wr (.cells #[.int .i64 o.kind, .string (mkB o.path), .string (mkB o.data), .int .i64 o.version, .int .i64 o.flags] 50))
        have C2 := Lib.hid (HSS.out _ (((bcell P1.out).1 pb 2 hbr).trans c2) B0.out)
        clear C9 hLk hto ho
        go_wp2
        go_region_held3 (fun (w' : World) => w'.cell? ⟨pb, 2, none⟩ = some (.pointer (some ⟨A.lb, 0, none⟩)) ∧ w'.cell? ⟨wr.heap.size, 0, none⟩ = some (.int .i64 o.kind) ∧ w'.cell? ⟨wr.heap.size, 1, none⟩ = some (.string (mkB o.path)) ∧ w'.cell? ⟨wr.heap.size, 2, none⟩ = some (.string (mkB o.data)) ∧ w'.cell? ⟨wr.heap.size, 3, none⟩ = some (.int .i64 o.version) ∧ w'.cell? ⟨wr.heap.size, 4, none⟩ = some (.int .i64 o.flags)) (first | with_reducible exact C2.out | with_reducible exact C3.out | with_reducible exact C4.out)
          (first
            | (go_at_call 51; refine (wants_any o _ (by omega) HGr.out).mono ?_; rintro e w8 ⟨wv, rfl, hwv, hb8⟩; obtain ⟨wa, wc8, rfl⟩ := hwv.len; have HWV := Lib.hid hwv; have HB8 := Lib.hid (P1.out.tr hb8); have B8 := Lib.hid ((hb8.block _ (lt_of_blk B0.out)).trans B0.out); have C3 := Lib.hid (HSS.out _ (((bcell HB8.out).1 pb 2 hbr).trans c2) B8.out); have HG8 := Lib.hid (HGr.out.pu hb8); clear hwv hb8)
            | (go_at_call 50; refine (takeS_any A.lb A.lm (takeOps P.locks id (l.take k)) id (wantsO o) _ _ (HZ.out.part.locks.pu HB8.out) HLo.out HWV.out HWl.out (by omega) HG8.out).mono ?_; rintro e w9 ⟨⟨xv, rfl⟩, hl9, hf9⟩; have Q9 := Lib.hid ((HZ.out.part.pu HB8.out).set_locks hl9 hf9); have C4 := Lib.hid (HSS.out _ Q9.out.1.cells.2.2.1 ((HZ.out.part.pu HB8.out).cells_of Q9.out.2 B8.out (by decide))); clear hl9 hf9))
        go_wp2
        go_roundw
        case rel =>
          refine ⟨k + 1, by go_num, by omega, Lib.hid ⟨?_, ?_, ?_⟩⟩
          · rw [HTO.out]; exact Q9.out.1
          · exact (HZ.out.fr.trans (Fr.of_below (M := PFoot pb A P) HB8.out) fun _ _ h => h).trans Q9.out.2 fun _ _ h => h
          · exact (HZ.out.part.pu HB8.out).cells_of Q9.out.2 ((HB8.out.block _ (lt_of_blk HZ.out.rep)).trans HZ.out.rep) (by decide)
        case measure => simp [intOf]; omega
      · have hk' : k = n := by omega
        have hz := HZ.out
        subst hk'
        have hall : l.take k = l := List.take_of_length_le (by have := HN.out; omega)
        have HP1 : Hid (PartIn wr pb A { P with locks := takeOps P.locks id l }) := Lib.hid (by have := HZ.out.part; rwa [hall] at this)
        have HF1 := Lib.hid HZ.out.fr
        have HR1 := Lib.hid HZ.out.rep
        have HV1 := Lib.hid (H.out.ops_of HZ.out.fr HSep.out Hv.out)
        have hbr := lt_of_blk HP1.out.box
        have c4 := HP1.out.cells.2.2.2.2.1
        have hwn : P.wait.length < maxLen := by have := Ho.out.waitn; unfold maxLen; omega
        have C4 := Lib.hid (show wr.drew.cell? ⟨pb, 4, none⟩ = some (.map (some A.wm)) from c4)
        obtain ⟨ok, hok⟩ : ∃ ok, ok = M.2.2 := ⟨_, rfl⟩
        have HE2 : Hid (prepareP P id sess l = ({ P with locks := takeOps P.locks id l, wait := aput id ⟨sess, l, false, !ok⟩ P.wait }, if ok = true then (0, -1) else (M.2.1.err, M.2.1.place))) := Lib.hid (by rw [HE.out, hok])
        rw [← hok]
        clear hok HE HZ hall Z0
        go_wp2
        have hstore : Hid (∀ (w11 : World) (na : Option Addr) (nc : Nat), Pu wr w11 → SlO 50 w11 (.slice na l.length nc) l → ∃ w12, (Instr.mapUpdate 86 (.map (some A.wm)) (.int .i64 id) (.agg #[.int .i64 sess, .slice na l.length nc, .bool false, .bool (!ok)])).run Tryz.prog w11 = .ok () w12 ∧
            PartStep w pb A P { P with locks := takeOps P.locks id l, wait := aput id ⟨sess, l, false, !ok⟩ P.wait } w12 ∧ w12.heap[rb]? = some (.cells rc 34 (0, 0)) ∧ w12.cell? ⟨pb, 4, none⟩ = some (.map (some A.wm))) := Lib.hid fun w11 na nc hp hs => by
          have h11 := HP1.out.pu hp
          obtain ⟨w12, e1, e2, e3⟩ := h11.wait.store (f' := fP (fun j => if j = id then .slice na l.length nc else A.sv j)) TI Tryz.underlying86 hwn id (⟨sess, l, false, !ok⟩ : PrepD) Hi.out (fun x _ hx => by simp only [fP, if_neg hx])
          have e4 : fP (fun j => if j = id then .slice na l.length nc else A.sv j) id (⟨sess, l, false, !ok⟩ : PrepD) = .agg #[.int .i64 sess, .slice na l.length nc, .bool false, .bool (!ok)] := by simp only [fP, if_true]
          rw [e4] at e1
          obtain ⟨p12, f12⟩ := h11.set_wait e2 (turned_fr e3) (fun x hx => by
            rcases mem_aput.1 hx with rfl | ⟨hx, hne⟩
            · simp only [if_true]
              exact Sl.keep hs fun i c fr hi => (mapTurned_cells e3 hi).trans hi.symm
            · simp only [if_neg hne]
              exact Sl.keep (h11.ops x hx) fun i c fr hi => (mapTurned_cells e3 hi).trans hi.symm)
          refine ⟨w12, e1, ⟨_, p12, (HF1.out.trans (Fr.of_below (M := PFoot pb A P) hp) fun _ _ h => h).trans f12 fun _ _ h => h, fun b hb => .inl hb⟩, h11.cells_of f12 ((hp.block _ (lt_of_blk HR1.out)).trans HR1.out) (by decide), p12.cells.2.2.2.2.1⟩
        go_region_held3 (fun (w' : World) => w'.cell? ⟨pb, 4, none⟩ = some (.map (some A.wm))) (first | with_reducible exact C4.out | with_reducible exact C5.out | with_reducible exact C6.out)
          (first
            | (go_at_call 52; refine (cloneOps_any l _ _ (HV1.out.pu (pu_drew1 _)) (by have := HN.out; omega) (by have := HN.out; omega)).mono ?_; rintro e w11 ⟨nv, rfl, hnv, hp0⟩; obtain ⟨na, nc, rfl, _⟩ := hnv.len; have hp11 : Pu wr w11 := (pu_drew1 _).tr hp0; obtain ⟨w12, hst, hps, hrp, h4p⟩ := hstore.out w11 na nc hp11 hnv; have HPS := Lib.hid hps; have HRP := Lib.hid hrp; have C5 := Lib.hid (((bcell hp11).1 pb 4 hbr).trans c4); have C6 := Lib.hid h4p; rw [HRC.out] at hrp; have r2 : w12.cell? ⟨rb, 2, none⟩ = some (.int .i64 M.2.1.err) := cell_of_blk hrp; have r3 : w12.cell? ⟨rb, 3, none⟩ = some (.int .i64 M.2.1.place) := cell_of_blk hrp; clear hnv hp0 hp11 hps hrp h4p))
        cases ok
        · go_wp2
          go_quiet (fail)
          go_wp2
          go_ret2
          exact PrepR.of HE2.out rfl (PartStep.pu HPS.out (pu_drewN _ _))
        · go_wp2
          go_ret2
          exact PrepR.of HE2.out rfl HPS.out

theorem prepare_any {N : Nat} (id sess : Int) (l : List OpD) (v : Value) (w : World) (h : PartIn w pb A P) (ho : PartOk N P) (hN : N ≤ 500) (hv : SlX w v l) (hsep : 0 < l.length → OpSep pb A P v) (hp : ∀ o ∈ l, o.path.length ≤ 1000000) (hg : Gl w) (hlow : ∀ b, PFoot pb A P b → gB ≤ b) (hi : i64 id) (hs : i64 sess) :
    Calls Tryz.prog 13 #[.pointer (some ⟨pb, 0, none⟩), .int .i64 id, .int .i64 sess, v] w (PrepR w pb A P (prepareP P id sess l)) := by
  by_cases h1 : knownB P id sess = true
  · exact prepare_no id sess l v w h ho hN hv hp hg hi hs (.inl h1)
  · by_cases h2 : may ⟨sess, 1, l⟩ = 0
    · by_cases h3 : (busyP P id sess l).1 = 0
      · obtain ⟨_, _, m3, _⟩ := may_ok h2
        obtain ⟨t, hv'⟩ := hv.real m3
        exact prepare_yes id sess l v w h ho hN hv' (hsep m3) hg hlow hi hs (by simpa using h1) h2 h3
      · exact prepare_no id sess l v w h ho hN hv hp hg hi hs (.inr (.inr h3))
    · exact prepare_no id sess l v w h ho hN hv hp hg hi hs (.inr (.inl h2))

end Go.Proofs.YtmigbgfgnhkmnaaGreatDoor

/- Package part: Close. -/
namespace Go.Proofs.YtmigbgfgnhkmnaaGreatDoor
open Go.RowKit Go.Av Go.Maps Go.Sort

attribute [local go_sem ↓] Go.wp_at_zero Go.wp_at_succ
attribute [local go_sem] run_makeMap

variable {w w' : World} {pb : Nat} {A : PL} {P : PartD}

set_option maxHeartbeats 4000000 in
set_option maxRecDepth 100000 in
theorem close_any {N : Nat} (id sess : Int) (w : World) (h : PartIn w pb A P) (ho : PartOk N P) (hN : N ≤ 500) (hg : Gl w) (hi : i64 id) (hs : i64 sess) :
    Calls Tryz.prog 14 #[.pointer (some ⟨pb, 0, none⟩), .int .i64 id, .int .i64 sess] w (PrepR w pb A P (closeP P id sess)) := by
  have H := Lib.hid h; have Ho := Lib.hid ho; have Hg := Lib.hid hg; have Hi := Lib.hid hi; have Hs := Lib.hid hs
  have hlk := ho.lockn
  have hwn : P.wait.length < maxLen := by have := ho.waitn; unfold maxLen; omega
  have Hwn := Lib.hid hwn
  clear h ho hg hi hs hwn
  cases hk : knownB P id sess
  · cases hc : isIn sess P.closed
    · cases hu : usesB P sess
      · obtain ⟨l, hl⟩ : ∃ l, l = ofT P.tree sess := ⟨_, rfl⟩
        have hlen : l.length ≤ 500 := by rw [hl]; exact ofT_len Ho.out.tree sess
        have hgood := ofT_good Ho.out.tree sess
        rw [← hl] at hgood
        have HL := Lib.hid hl
        have HLp : Hid (∀ p ∈ l, p.length ≤ 1000000) := Lib.hid (fun p hp => by have := good_len (hgood p hp); omega)
        cases hw : wrongP P.locks id l with
        | some p =>
          have HE : Hid (closeP P id sess = (P, (12, -1))) := Lib.hid (by unfold closeP; rw [if_neg (by rw [hk]; simp), if_neg (by rw [hc]; simp), if_neg (by rw [hu]; simp), ← hl, hw])
          have Hk := Lib.hid hk; have Hc := Lib.hid hc; have Hu := Lib.hid hu
          have ht : ∀ W, TakeR W A.lb A.lm P.locks id l = fun e w' => e = .returned (.tuple #[.string (mkB p), .bool false]) ∧ Pu W w' := by
            intro W; funext e w'; simp only [TakeR, hw]
          have Ht := Lib.hid ht
          clear hk hc hu hl hw ht hgood
          go_enter Tryz.func14, Tryz.ntmps14
          go_wp2_with (first
            | (go_at_call 47; refine (known_any id sess _ H.out Hi.out).mono ?_; rw [Hk.out]; rintro e w1 ⟨rfl, hb1⟩; have h1 := H.out.pu hb1; have C9 := h1.cells; have c6 := C9.2.2.2.2.2.2; have lk := h1.look_clo sess Hs.out; rw [Hc.out] at lk; have HB1 := Lib.hid hb1; clear hb1 h1 C9)
            | (go_at_call 53; refine (uses_any sess _ (H.out.pu HB1.out) Ho.out).mono ?_; rw [Hu.out]; rintro e w2 ⟨rfl, hb2⟩; have C9 := ((H.out.pu HB1.out).pu hb2).cells; have c1 := C9.2.1; have HB2 := Lib.hid (HB1.out.tr hb2); clear hb2 C9)
            | (go_at_call 54; refine (ofT_any sess _ (H.out.pu HB2.out).tree Ho.out.tree).mono ?_; rw [← HL.out]; rintro e w3 ⟨v3, rfl, hv3, hb3⟩; have HV3 := Lib.hid (SlS.of_own hv3); have C9 := ((H.out.pu HB2.out).pu hb3).cells; have c2 := C9.2.2.1; have HB3 := Lib.hid (HB2.out.tr hb3); clear hb3 C9 hv3)
            | (go_at_call 50; refine (take_any A.lb A.lm P.locks id l _ _ (H.out.pu HB3.out).locks Ho.out.locks HV3.out HLp.out (by omega) (Hg.out.pu HB3.out)).mono ?_; rw [Ht.out]; rintro e w4 ⟨rfl, hb4⟩; have HB4 := Lib.hid (HB3.out.tr hb4); clear hb4))
          go_ret2
          exact PrepR.of HE.out rfl (PartStep.refl H.out HB4.out)
        | none =>
          have HE : Hid (closeP P id sess = ({ P with locks := takeL P.locks id l, wait := aput id ⟨sess, [], true, false⟩ P.wait }, (0, -1))) := Lib.hid (by unfold closeP; rw [if_neg (by rw [hk]; simp), if_neg (by rw [hc]; simp), if_neg (by rw [hu]; simp), ← hl, hw])
          have Hk := Lib.hid hk; have Hc := Lib.hid hc; have Hu := Lib.hid hu
          have ht : ∀ W, TakeR W A.lb A.lm P.locks id l = fun e w' => e = .returned (.tuple #[.string (mkB []), .bool true]) ∧ LocksAt w' A.lb A.lm (takeL P.locks id l) ∧ Fr (fun b => b = A.lm) W w' := by
            intro W; funext e w'; simp only [TakeR, hw]
          have Ht := Lib.hid ht
          clear hk hc hu hl hw ht hgood
          have hstore : Hid (∀ (w3 w4 : World), Pu w w3 → LocksAt w4 A.lb A.lm (takeL P.locks id l) → Fr (fun b => b = A.lm) w3 w4 → w4.cell? ⟨pb, 4, none⟩ = some (.map (some A.wm)) ∧ ∃ w5, (Instr.mapUpdate 86 (.map (some A.wm)) (.int .i64 id) (.agg #[.int .i64 sess, .slice none 0 0, .bool true, .bool false])).run Tryz.prog w4 = .ok () w5 ∧
              PartStep w pb A P { P with locks := takeL P.locks id l, wait := aput id ⟨sess, [], true, false⟩ P.wait } w5) := Lib.hid fun w3 w4 hp hla hf => by
            have h3 := H.out.pu hp
            obtain ⟨h4, f4⟩ := h3.set_locks hla hf
            obtain ⟨w5, e1, e2, e3⟩ := h4.wait.store (f' := fP (fun j => if j = id then .slice none 0 0 else A.sv j)) TI Tryz.underlying86 Hwn.out id (⟨sess, [], true, false⟩ : PrepD) Hi.out (fun x _ hx => by simp only [fP, if_neg hx])
            have e4 : fP (fun j => if j = id then .slice none 0 0 else A.sv j) id (⟨sess, [], true, false⟩ : PrepD) = .agg #[.int .i64 sess, .slice none 0 0, .bool true, .bool false] := by simp only [fP, if_true]
            rw [e4] at e1
            obtain ⟨p5, f5⟩ := h4.set_wait e2 (turned_fr e3) (fun x hx => by
              rcases mem_aput.1 hx with rfl | ⟨hx, hne⟩
              · simp only [if_true]; exact ⟨rfl, .inl ⟨rfl, rfl⟩⟩
              · simp only [if_neg hne]
                exact Sl.keep (h4.ops x hx) fun i c fr hi => (mapTurned_cells e3 hi).trans hi.symm)
            refine ⟨h4.cells.2.2.2.2.1, w5, e1, ⟨_, p5, ((Fr.of_below (M := PFoot pb A P) hp).trans f4 fun _ _ h => h).trans f5 fun _ _ h => h, fun b hb => .inl hb⟩⟩
          go_enter Tryz.func14, Tryz.ntmps14
          go_wp2_with (first
            | (go_at_call 47; refine (known_any id sess _ H.out Hi.out).mono ?_; rw [Hk.out]; rintro e w1 ⟨rfl, hb1⟩; have h1 := H.out.pu hb1; have C9 := h1.cells; have c6 := C9.2.2.2.2.2.2; have lk := h1.look_clo sess Hs.out; rw [Hc.out] at lk; have HB1 := Lib.hid hb1; clear hb1 h1 C9)
            | (go_at_call 53; refine (uses_any sess _ (H.out.pu HB1.out) Ho.out).mono ?_; rw [Hu.out]; rintro e w2 ⟨rfl, hb2⟩; have C9 := ((H.out.pu HB1.out).pu hb2).cells; have c1 := C9.2.1; have HB2 := Lib.hid (HB1.out.tr hb2); clear hb2 C9)
            | (go_at_call 54; refine (ofT_any sess _ (H.out.pu HB2.out).tree Ho.out.tree).mono ?_; rw [← HL.out]; rintro e w3 ⟨v3, rfl, hv3, hb3⟩; have HV3 := Lib.hid (SlS.of_own hv3); have C9 := ((H.out.pu HB2.out).pu hb3).cells; have c2 := C9.2.2.1; have HB3 := Lib.hid (HB2.out.tr hb3); clear hb3 C9 hv3)
            | (go_at_call 50; refine (take_any A.lb A.lm P.locks id l _ _ (H.out.pu HB3.out).locks Ho.out.locks HV3.out HLp.out (by omega) (Hg.out.pu HB3.out)).mono ?_; rw [Ht.out]; rintro e w4 ⟨rfl, hl4, hf4⟩; obtain ⟨c4, w5, hst, hps⟩ := hstore.out _ w4 HB3.out hl4 hf4; have HPS := Lib.hid hps; clear hl4 hf4 hps))
          go_ret2
          exact PrepR.of HE.out rfl HPS.out
      · have HE : Hid (closeP P id sess = (P, (12, -1))) := Lib.hid (by unfold closeP; rw [if_neg (by rw [hk]; simp), if_neg (by rw [hc]; simp), if_pos hu])
        have Hk := Lib.hid hk; have Hc := Lib.hid hc; have Hu := Lib.hid hu
        clear hk hc hu
        go_enter Tryz.func14, Tryz.ntmps14
        go_wp2_with (first
          | (go_at_call 47; refine (known_any id sess _ H.out Hi.out).mono ?_; rw [Hk.out]; rintro e w1 ⟨rfl, hb1⟩; have h1 := H.out.pu hb1; have C9 := h1.cells; have c6 := C9.2.2.2.2.2.2; have lk := h1.look_clo sess Hs.out; rw [Hc.out] at lk; have HB1 := Lib.hid hb1; clear hb1 h1 C9)
          | (go_at_call 53; refine (uses_any sess _ (H.out.pu HB1.out) Ho.out).mono ?_; rw [Hu.out]; rintro e w2 ⟨rfl, hb2⟩; have HB2 := Lib.hid (HB1.out.tr hb2); clear hb2))
        go_ret2
        exact PrepR.of HE.out rfl (PartStep.refl H.out HB2.out)
    · have HE : Hid (closeP P id sess = (P, (11, -1))) := Lib.hid (by unfold closeP; rw [if_neg (by rw [hk]; simp), if_pos hc])
      have Hk := Lib.hid hk; have Hc := Lib.hid hc
      clear hk hc
      go_enter Tryz.func14, Tryz.ntmps14
      go_wp2_with (go_at_call 47; refine (known_any id sess _ H.out Hi.out).mono ?_; rw [Hk.out]; rintro e w1 ⟨rfl, hb1⟩; have h1 := H.out.pu hb1; have C9 := h1.cells; have c6 := C9.2.2.2.2.2.2; have lk := h1.look_clo sess Hs.out; rw [Hc.out] at lk; have HB1 := Lib.hid hb1; clear hb1 h1 C9)
      go_ret2
      exact PrepR.of HE.out rfl (PartStep.refl H.out HB1.out)
  · have HE : Hid (closeP P id sess = (P, (1, -1))) := Lib.hid (by unfold closeP; rw [if_pos hk])
    have Hk := Lib.hid hk
    clear hk
    go_enter Tryz.func14, Tryz.ntmps14
    go_wp2_with (go_at_call 47; refine (known_any id sess _ H.out Hi.out).mono ?_; rw [Hk.out]; rintro e w1 ⟨rfl, hb1⟩; have HB1 := Lib.hid hb1; clear hb1)
    go_ret2
    exact PrepR.of HE.out rfl (PartStep.refl H.out HB1.out)

end Go.Proofs.YtmigbgfgnhkmnaaGreatDoor

/- Package part: Decide. -/
namespace Go.Proofs.YtmigbgfgnhkmnaaGreatDoor
open Go.RowKit Go.Av Go.Maps Go.Sort

attribute [local go_sem ↓] Go.wp_at_zero Go.wp_at_succ
attribute [local go_sem] run_makeMap

variable {w w' : World} {pb : Nat} {A : PL} {P : PartD}

/-- What Decide answers. -/
def DecR (w : World) (pb : Nat) (A : PL) (P : PartD) (a : PartD × (List ResD × Int)) (e : Ending) (w' : World) : Prop :=
  ∃ rv, e = .returned (.tuple #[rv, .int .i64 a.2.2]) ∧ SlR 59 9 w' rv a.2.1 ∧ PartStep w pb A P a.1 w'
theorem DecR.of {a b : PartD × (List ResD × Int)} {e : Ending} {rv : Value} (hb : b = a) (he : e = .returned (.tuple #[rv, .int .i64 a.2.2])) (hr : SlR 59 9 w' rv a.2.1) (hs : PartStep w pb A P a.1 w') : DecR w pb A P b e w' := by
  subst hb; exact ⟨rv, he, hr, hs⟩

set_option maxHeartbeats 1000000 in
set_option maxRecDepth 100000 in
theorem decide_none (id : Int) (commit : Bool) (w : World) (h : PartIn w pb A P) (hi : i64 id) (hx : aget id P.wait = none) :
    Calls Tryz.prog 15 #[.pointer (some ⟨pb, 0, none⟩), .int .i64 id, .bool commit] w (DecR w pb A P (decideP P id commit)) := by
  have HE : Hid (decideP P id commit = (P, ([], 4))) := Lib.hid (by unfold decideP; rw [hx])
  have hl := h.look_wait id hi
  rw [hx] at hl
  replace hl : (Instr.lookup 86 (.map (some A.wm)) (.int .i64 id) true).run Tryz.prog w = .ok (.tuple #[.agg #[.int .i64 0, .slice none 0 0, .bool false, .bool false], .bool false]) w := hl
  have c4 := h.cells.2.2.2.2.1
  have H := Lib.hid h
  clear h hx hi
  go_enter Tryz.func15, Tryz.ntmps15
  go_wp2
  go_ret2
  exact DecR.of HE.out rfl (SlR.nil _ _ _) (PartStep.refl H.out (pu_alloc _ _))

/-- What is done whatever is decided. -/
def decidedP (P : PartD) (id : Int) : PartD := { P with zxid := P.zxid + 1, locks := freeL P.locks id, wait := adel id P.wait, decided := aput id true P.decided }

/-- How far Decide has come when all but the deed is done. -/
structure Deciding (w : World) (pb : Nat) (A : PL) (P : PartD) (id : Int) (x : PrepD) (sl : Option Addr) (sc : Nat) (w5 : World) : Prop where
  part : PartIn w5 pb A (decidedP P id)
  fr : Fr (PFoot pb A P) w w5
  box : w5.heap[w.heap.size]? = some (.cells #[.int .i64 x.sess, .slice sl x.ops.length sc, .bool x.close, .bool x.fails] 100 (0, 0))
  ops : SlO 50 w5 (.slice sl x.ops.length sc) x.ops
  gl : Gl w5

theorem Deciding.of {N : Nat} {id : Int} {x : PrepD} {sl : Option Addr} {sc : Nat} (h : PartIn w pb A P) (ho : PartOk N P) (hN : N ≤ 500) (hg : Gl w) (hlow : ∀ b, PFoot pb A P b → gB ≤ b) (hi : i64 id) (hx : aget id P.wait = some x) (hsv : A.sv id = .slice sl x.ops.length sc) :
    LocksAt ((w.setCell ⟨pb, 3, none⟩ (.int .i64 (P.zxid + 1))).alloc (.cells #[.int .i64 x.sess, .slice sl x.ops.length sc, .bool x.close, .bool x.fails] 100)) A.lb A.lm P.locks ∧
    ∀ w3, LocksAt w3 A.lb A.lm (freeL P.locks id) → Fr (fun b => b = A.lm) ((w.setCell ⟨pb, 3, none⟩ (.int .i64 (P.zxid + 1))).alloc (.cells #[.int .i64 x.sess, .slice sl x.ops.length sc, .bool x.close, .bool x.fails] 100)) w3 →
      w3.cell? ⟨pb, 4, none⟩ = some (.map (some A.wm)) ∧ ∃ w4, (Builtin.delete_ #[86, 2] 0 #[.map (some A.wm), .int .i64 id]).run Tryz.prog w3 = .ok (.tuple #[]) w4 ∧ w4.cell? ⟨pb, 5, none⟩ = some (.map (some A.dm)) ∧
        ∃ w5, (Instr.mapUpdate 87 (.map (some A.dm)) (.int .i64 id) (.bool true)).run Tryz.prog w4 = .ok () w5 ∧ Deciding w pb A P id x sl sc w5 := by
  obtain ⟨h2', f2⟩ := h.set_zxid (P.zxid + 1)
  have h2 := h2'.pu (pu_alloc _ (.cells #[.int .i64 x.sess, .slice sl x.ops.length sc, .bool x.close, .bool x.fails] 100))
  have b2 := al1 (w.setCell ⟨pb, 3, none⟩ (.int .i64 (P.zxid + 1))) (.cells #[.int .i64 x.sess, .slice sl x.ops.length sc, .bool x.close, .bool x.fails] 100)
  have hsz : (w.setCell ⟨pb, 3, none⟩ (.int .i64 (P.zxid + 1))).heap.size = w.heap.size := by simp
  rw [hsz] at b2
  have F2 : Fr (PFoot pb A P) w ((w.setCell ⟨pb, 3, none⟩ (.int .i64 (P.zxid + 1))).alloc (.cells #[.int .i64 x.sess, .slice sl x.ops.length sc, .bool x.close, .bool x.fails] 100)) := f2.trans (Fr.of_below (M := PFoot pb A P) (pu_alloc _ _)) fun _ _ h => h
  refine ⟨h2.locks, fun w3 hl hf => ?_⟩
  obtain ⟨h3, f3⟩ := h2.set_locks hl hf
  have b3 := h2.cells_of f3 b2 (by decide)
  refine ⟨h3.cells.2.2.2.2.1, ?_⟩
  obtain ⟨w4, e1, e2, e3⟩ := h3.wait.drop TI Tryz.underlying86 id hi 0
  obtain ⟨h4, f4⟩ := h3.set_wait e2 (turned_fr e3) (fun y hy => Sl.keep (h3.ops y (mem_adel.1 hy).1) fun i c fr hi => (mapTurned_cells e3 hi).trans hi.symm)
  have b4 := h3.cells_of f4 b3 (by decide)
  refine ⟨w4, e1, h4.cells.2.2.2.2.2.1, ?_⟩
  obtain ⟨w5, g1, g2, g3⟩ := h4.dec.store (f' := fB) TI Tryz.underlying87 (by have := ho.decn; show P.decided.length < maxLen; unfold maxLen; omega) id true hi (fun _ _ _ => rfl)
  obtain ⟨h5, f5⟩ := h4.set_dec g2 (turned_fr g3)
  have F5 : Fr (PFoot pb A P) w w5 := ((F2.trans f3 fun _ _ h => h).trans f4 fun _ _ h => h).trans f5 fun _ _ h => h
  have ho5 := h.ops_of F5 (OpSep.typed h (h.ops _ (aget_mem hx))) (h.ops _ (aget_mem hx))
  simp only [hsv] at ho5
  exact ⟨w5, g1, h5, F5, h4.cells_of f5 b4 (by decide), ho5, hg.fr F5 hlow⟩

theorem decided_ok {N : Nat} {id : Int} (ho : PartOk N P) : PartOk (N + 1) (decidedP P id) := by
  have k := ho.up (Nat.le_succ N)
  have hl := List.length_filter_le (fun x : Str × Int => !(x.2 == id)) P.locks
  have hw := List.length_filter_le (fun x : Int × PrepD => !(x.1 == id)) P.wait
  have hd := length_aput ho.dec id true
  have hd2 := ho.decn
  refine ⟨k.room, k.tree, freeL_ok k.locks id, ?_, adel_sorted k.wait, ?_, aput_sorted k.dec, ?_, k.clo, k.clon, fun x hx => k.opn x (mem_adel.1 hx).1, fun x hx => k.opg x (mem_adel.1 hx).1, fun x hx => k.sess x (mem_adel.1 hx).1, ?_, ?_⟩
  · have := k.lockn; show (P.locks.filter _).length ≤ _; omega
  · have := k.waitn; show (P.wait.filter _).length ≤ _; omega
  · show (aput id true P.decided).length ≤ _; split at hd <;> omega
  · have := ho.z0; show 0 ≤ P.zxid + 1; omega
  · have := ho.z1; show P.zxid + 1 ≤ _; omega

set_option maxHeartbeats 4000000 in
set_option maxRecDepth 100000 in
theorem decide_not {N : Nat} (id : Int) (commit : Bool) (w : World) (h : PartIn w pb A P) (ho : PartOk N P) (hN : N ≤ 500) (hg : Gl w) (hlow : ∀ b, PFoot pb A P b → gB ≤ b) (hi : i64 id) (x : PrepD) (hx : aget id P.wait = some x) (hno : (!commit || x.fails) = true) :
    Calls Tryz.prog 15 #[.pointer (some ⟨pb, 0, none⟩), .int .i64 id, .bool commit] w (DecR w pb A P (decideP P id commit)) := by
  have HE : Hid (decideP P id commit = (decidedP P id, ([], 0))) := Lib.hid (by unfold decideP; rw [hx]; simp only; rw [if_pos hno]; rfl)
  have hl := h.look_wait id hi
  obtain ⟨sl, sc, hsv, _⟩ := (h.ops _ (aget_mem hx)).len
  rw [hx] at hl
  simp only at hsv
  replace hl : (Instr.lookup 86 (.map (some A.wm)) (.int .i64 id) true).run Tryz.prog w = .ok (.tuple #[.agg #[.int .i64 x.sess, .slice sl x.ops.length sc, .bool x.close, .bool x.fails], .bool true]) w := by rw [← hsv]; exact hl
  have c4 := h.cells.2.2.2.2.1
  have c2 := h.cells.2.2.1
  have c3 := h.cells.2.2.2.1
  have f3 : w.frozen? ⟨pb, 3, none⟩ = false := frozen_of_blk h.box
  obtain ⟨d4, d5⟩ := Deciding.of h ho hN hg hlow hi hx hsv
  have hz0 := ho.z0
  have hz1 := ho.z1
  have HL4 := Lib.hid d4; have HD5 := Lib.hid d5; have HLo := Lib.hid ho.locks
  have H := Lib.hid h
  have hpl := lt_of_blk h.box
  obtain ⟨se, ops, cl, fl⟩ := x
  simp only at hl hno HL4 HD5
  clear d4 d5 h ho hg hlow hx hsv hi
  have fin : Hid (∀ w5, Deciding w pb A P id ⟨se, ops, cl, fl⟩ sl sc w5 → PartStep w pb A P (decidedP P id) w5) := Lib.hid fun w5 hd => ⟨A, hd.part, hd.fr, fun b hb => .inl hb⟩
  cases commit
  · clear hno
    go_enter Tryz.func15, Tryz.ntmps15
    go_wp2_with (go_at_call 55; refine (free_any A.lb A.lm P.locks id _ HL4.out HLo.out).mono ?_; rintro e w3 ⟨nf, rfl, hl3, hf3⟩; obtain ⟨q4, w4, hdel, q5, w5, hup, hdd⟩ := HD5.out w3 hl3 hf3; have HDD := Lib.hid hdd; clear hl3 hf3 hdd)
    go_ret2
    exact DecR.of HE.out rfl (SlR.nil _ _ _) (fin.out _ HDD.out)
  · have hfl : fl = true := by simpa using hno
    subst hfl
    clear hno
    go_enter Tryz.func15, Tryz.ntmps15
    go_wp2_with (go_at_call 55; refine (free_any A.lb A.lm P.locks id _ HL4.out HLo.out).mono ?_; rintro e w3 ⟨nf, rfl, hl3, hf3⟩; obtain ⟨q4, w4, hdel, q5, w5, hup, hdd⟩ := HD5.out w3 hl3 hf3; have x3 : w5.cell? ⟨w.heap.size, 3, none⟩ = some (.bool true) := cell_of_blk hdd.box; have HDD := Lib.hid hdd; clear hl3 hf3 hdd)
    go_ret2
    exact DecR.of HE.out rfl (SlR.nil _ _ _) (fin.out _ HDD.out)

set_option maxHeartbeats 4000000 in
set_option maxRecDepth 100000 in
theorem decide_close {N : Nat} (id : Int) (w : World) (h : PartIn w pb A P) (ho : PartOk N P) (hN : N ≤ 500) (hg : Gl w) (hlow : ∀ b, PFoot pb A P b → gB ≤ b) (hi : i64 id) (x : PrepD) (hx : aget id P.wait = some x) (hf : x.fails = false) (hcl : x.close = true) :
    Calls Tryz.prog 15 #[.pointer (some ⟨pb, 0, none⟩), .int .i64 id, .bool true] w (DecR w pb A P (decideP P id true)) := by
  have HE : Hid (decideP P id true = ({ decidedP P id with tree := purgeT P.tree x.sess, closed := aput x.sess true P.closed }, ([], 0))) := Lib.hid (by unfold decideP; rw [hx]; simp only; rw [if_neg (by simp [hf]), if_pos hcl]; rfl)
  have hl := h.look_wait id hi
  obtain ⟨sl, sc, hsv, _⟩ := (h.ops _ (aget_mem hx)).len
  rw [hx] at hl
  simp only at hsv
  replace hl : (Instr.lookup 86 (.map (some A.wm)) (.int .i64 id) true).run Tryz.prog w = .ok (.tuple #[.agg #[.int .i64 x.sess, .slice sl x.ops.length sc, .bool x.close, .bool x.fails], .bool true]) w := by rw [← hsv]; exact hl
  have c4 := h.cells.2.2.2.2.1
  have c2 := h.cells.2.2.1
  have c3 := h.cells.2.2.2.1
  have f3 : w.frozen? ⟨pb, 3, none⟩ = false := frozen_of_blk h.box
  obtain ⟨d4, d5⟩ := Deciding.of h ho hN hg hlow hi hx hsv
  have hz0 := ho.z0
  have hz1 := ho.z1
  have HL4 := Lib.hid d4; have HD5 := Lib.hid d5; have HLo := Lib.hid ho.locks; have HTo := Lib.hid ho.tree; have Hlow := Lib.hid hlow
  have hse : i64 x.sess := ho.sess _ (aget_mem hx)
  have hcn : P.closed.length < maxLen := by have := ho.clon; unfold maxLen; omega
  have HSe := Lib.hid hse; have HCn := Lib.hid hcn
  have H := Lib.hid h
  have hpl := lt_of_blk h.box
  obtain ⟨se, ops, cl, fl⟩ := x
  simp only at hl hf hcl HL4 HD5 HSe
  subst hf hcl
  clear d4 d5 h ho hg hlow hx hsv hi hse hcn
  -- the purge, and what follows it
  have hlast : Hid (∀ w5 w6, Deciding w pb A P id ⟨se, ops, true, false⟩ sl sc w5 → TreeStep w5.drew A.tp A.mp A.nb P.tree (purgeT P.tree se) w6 →
      ∃ cm, w6.cell? ⟨pb, 6, none⟩ = some (.map (some cm)) ∧ w6.cell? ⟨w.heap.size, 0, none⟩ = some (.int .i64 se) ∧
        ∃ w7, (Instr.mapUpdate 87 (.map (some cm)) (.int .i64 se) (.bool true)).run Tryz.prog w6.drew = .ok () w7 ∧ PartStep w pb A P { decidedP P id with tree := purgeT P.tree se, closed := aput se true P.closed } w7) := Lib.hid fun w5 w6 hd ht => by
    have h5 := hd.part.pu (pu_drew1 w5)
    obtain ⟨nb6, t6, f6, o6⟩ := ht
    obtain ⟨A6, h6, F6, O6⟩ := PartIn.tree_step h5 t6 f6 (fun b hb => hb) o6
    have b6 := h5.cells_of F6 (show w5.drew.heap[w.heap.size]? = _ from hd.box) (by decide)
    obtain ⟨w7, g1, g2, g3⟩ := (h6.pu (pu_drew1 w6)).clo.store (f' := fB) TI Tryz.underlying87 HCn.out se true HSe.out (fun _ _ _ => rfl)
    obtain ⟨h7, f7⟩ := (h6.pu (pu_drew1 w6)).set_clo g2 (turned_fr g3)
    refine ⟨A6.cm, h6.cells.2.2.2.2.2.2, cell_of_blk b6, w7, g1, A6, h7, ?_, ?_⟩
    · refine ((hd.fr.trans (Fr.of_below (M := fun _ => False) (pu_drew1 w5)) fun _ _ h => h.elim).trans (F6.trans (Fr.of_below (M := fun _ => False) (pu_drew1 w6)) fun _ _ h => h.elim) fun _ _ h => h).trans f7 fun y hy hm => ?_
      rcases O6 y hm with h | h
      · exact h
      · have := hd.fr.size
        have : w5.drew.heap.size = w5.heap.size := rfl
        omega
    · intro b hb
      rcases O6 b hb with h | h
      · exact .inl h
      · exact .inr (Nat.le_trans hd.fr.size h)
  go_enter Tryz.func15, Tryz.ntmps15
  go_wp2_with (go_at_call 55; refine (free_any A.lb A.lm P.locks id _ HL4.out HLo.out).mono ?_; rintro e w3 ⟨nf, rfl, hl3, hf3⟩; obtain ⟨q4, w4, hdel, q5, w5, hup, hdd⟩ := HD5.out w3 hl3 hf3; have x3 : w5.cell? ⟨w.heap.size, 3, none⟩ = some (.bool false) := cell_of_blk hdd.box; have x2 : w5.cell? ⟨w.heap.size, 2, none⟩ = some (.bool true) := cell_of_blk hdd.box; have x0 : w5.cell? ⟨w.heap.size, 0, none⟩ = some (.int .i64 se) := cell_of_blk hdd.box; have x1 := hdd.part.cells.2.1; have HDD := Lib.hid hdd; clear hl3 hf3 hdd)
  go_still_tail 6, (by kernel_rfl)
  change wpList _ _ _ _ _ w5.drew
  go_wp2_with (go_at_call 56; refine (purge_any se _ (HDD.out.part.pu (pu_drew1 w5)).tree HTo.out (show Gl w5.drew from HDD.out.gl) (fun b hb => Hlow.out b (.inl hb))).mono ?_; rintro e w6 ⟨⟨pv, rfl⟩, ht6⟩; obtain ⟨cm, y6, y0, w7, hup7, hps⟩ := hlast.out w5 w6 HDD.out ht6; have HPS := Lib.hid hps; clear ht6 hps)
  go_still_tail 6, (by kernel_rfl)
  change wpList _ _ _ _ _ w6.drew
  go_wp2
  go_ret2
  exact DecR.of HE.out rfl (SlR.nil _ _ _) HPS.out

end Go.Proofs.YtmigbgfgnhkmnaaGreatDoor

/- Package part: Decide, what was foreseen is done. -/
namespace Go.Proofs.YtmigbgfgnhkmnaaGreatDoor
open Go.RowKit Go.Av Go.Maps Go.Sort

attribute [local go_sem ↓] Go.wp_at_zero Go.wp_at_succ
attribute [local go_sem] run_makeMap

variable {w w' : World} {pb : Nat} {A : PL} {P : PartD}

theorem five_fr {b : Nat} (v0 v1 v2 v3 v4 : Value) :
    Fr (fun x => x = b) w (((((w.setCell ⟨b, 0, none⟩ v0).setCell ⟨b, 1, none⟩ v1).setCell ⟨b, 2, none⟩ v2).setCell ⟨b, 3, none⟩ v3).setCell ⟨b, 4, none⟩ v4) :=
  fr_set (fr_set (fr_set (fr_set (fr_set (Fr.refl _ _) _ _) _ _) _ _) _ _) _ _

set_option maxHeartbeats 4000000 in
set_option maxRecDepth 100000 in
theorem decide_do {N : Nat} (id : Int) (w : World) (h : PartIn w pb A P) (ho : PartOk N P) (hN : N ≤ 500) (hg : Gl w) (hlow : ∀ b, PFoot pb A P b → gB ≤ b) (hi : i64 id) (x : PrepD) (hx : aget id P.wait = some x) (hf : x.fails = false) (hcl : x.close = false) :
    Calls Tryz.prog 15 #[.pointer (some ⟨pb, 0, none⟩), .int .i64 id, .bool true] w (DecR w pb A P (decideP P id true)) := by
  obtain ⟨M, hM⟩ : ∃ M, M = multiDo P.tree x.sess (P.zxid + 1) x.ops := ⟨_, rfl⟩
  have HE : Hid (decideP P id true = ({ decidedP P id with tree := M.1 }, (M.2.1.results, 0))) := Lib.hid (by unfold decideP; rw [hx]; simp only; rw [if_neg (by simp [hf]), if_neg (by simp [hcl]), hM]; rfl)
  have hl := h.look_wait id hi
  obtain ⟨sl, sc, hsv, _⟩ := (h.ops _ (aget_mem hx)).len
  rw [hx] at hl
  simp only at hsv
  replace hl : (Instr.lookup 86 (.map (some A.wm)) (.int .i64 id) true).run Tryz.prog w = .ok (.tuple #[.agg #[.int .i64 x.sess, .slice sl x.ops.length sc, .bool x.close, .bool x.fails], .bool true]) w := by rw [← hsv]; exact hl
  have c4 := h.cells.2.2.2.2.1
  have c2 := h.cells.2.2.1
  have c3 := h.cells.2.2.2.1
  have f3 : w.frozen? ⟨pb, 3, none⟩ = false := frozen_of_blk h.box
  obtain ⟨d4, d5⟩ := Deciding.of h ho hN hg hlow hi hx hsv
  have hz0 := ho.z0
  have hz1 := ho.z1
  have HL4 := Lib.hid d4; have HD5 := Lib.hid d5; have HLo := Lib.hid ho.locks; have HTo := Lib.hid ho.tree; have Hlow := Lib.hid hlow
  have hol : x.ops.length ≤ 16 := ho.opn _ (aget_mem hx)
  have HOg : Hid (∀ o ∈ x.ops, o.path.length ≤ 1000000) := Lib.hid fun o hm => by have := good_len (ho.opg _ (aget_mem hx) o hm); omega
  have hpt : pb ≠ A.tp := fun e => by have := h.box; rw [e, h.tree.box] at this; simp at this
  have H := Lib.hid h
  have hpl := lt_of_blk h.box
  obtain ⟨se, ops, cl, fl⟩ := x
  simp only at hl hf hcl HL4 HD5 hol HOg hM
  subst hf hcl
  have HMd := Lib.hid hM
  have htp := lt_of_blk h.tree.box
  clear d4 d5 h ho hg hlow hx hsv hi hM
  obtain ⟨on, hon⟩ : ∃ on, on = ops.length := ⟨_, rfl⟩
  simp only [← hon] at hl hol HL4 HD5
  have HON := Lib.hid hon
  clear hon
  have hlast : Hid (∀ (W w5 w6 : World) (mp6 : Nat) (nb6 : Str → Nat), Deciding w pb A P id ⟨se, ops, false, false⟩ sl sc w5 → Pu w5 W → TreeIn w6 A.tp mp6 nb6 M.1 → Fr (fun b => b = A.tp) W w6 → (∀ b, Foot A.tp mp6 nb6 M.1 b → Foot A.tp A.mp A.nb P.tree b ∨ W.heap.size ≤ b) →
      PartStep w pb A P { decidedP P id with tree := M.1 } w6 ∧ w6.cell? ⟨pb, 1, none⟩ = some (.pointer (some ⟨A.tp, 0, none⟩)) ∧ w6.cell? ⟨pb, 3, none⟩ = some (.int .i64 (P.zxid + 1)) ∧ w6.cell? ⟨w.heap.size, 0, none⟩ = some (.int .i64 se) ∧ w6.cell? ⟨w.heap.size, 1, none⟩ = some (.slice sl on sc)) := Lib.hid fun W w5 w6 mp6 nb6 hd hp t6 f6 o6 => by
    have h5 := hd.part.pu hp
    have hW : w.heap.size ≤ W.heap.size := Nat.le_trans hd.fr.size hp.size
    have b5 := (hp.block _ (lt_of_blk hd.box)).trans hd.box
    simp only [← HON.out] at b5
    have b6 := (f6.keep _ (lt_of_blk b5) (by omega)).trans b5
    have p6 := (f6.keep pb (lt_of_blk h5.box) hpt).trans h5.box
    have hF : Fr (PFoot pb A P) w W := hd.fr.trans (Fr.of_below (M := fun _ => False) hp) fun _ _ h => h.elim
    exact ⟨PartStep.then H.out h5 hF (fun b hb => .inl hb) (PartIn.tree_step h5 t6 f6 (fun b hb => .inl hb) o6), cell_of_blk p6, cell_of_blk p6, cell_of_blk b6, cell_of_blk b6⟩
  go_enter Tryz.func15, Tryz.ntmps15
  go_wp2_with (go_at_call 55; refine (free_any A.lb A.lm P.locks id _ HL4.out HLo.out).mono ?_; rintro e w3 ⟨nf, rfl, hl3, hf3⟩; obtain ⟨q4, w4, hdel, q5, w5, hup, hdd⟩ := HD5.out w3 hl3 hf3; have hbx := hdd.box; simp only [← HON.out] at hbx; have x3 : w5.cell? ⟨w.heap.size, 3, none⟩ = some (.bool false) := cell_of_blk hbx; have x2 : w5.cell? ⟨w.heap.size, 2, none⟩ = some (.bool false) := cell_of_blk hbx; have x0 : w5.cell? ⟨w.heap.size, 0, none⟩ = some (.int .i64 se) := cell_of_blk hbx; have x1 : w5.cell? ⟨w.heap.size, 1, none⟩ = some (.slice sl on sc) := cell_of_blk hbx; have y1 := hdd.part.cells.2.1; have y3 : w5.cell? ⟨pb, 3, none⟩ = some (.int .i64 (P.zxid + 1)) := hdd.part.cells.2.2.2.1; have n1 := World.new_ne w5 _ y1; have n2 := World.new_ne w5 _ x0; have hs5 := hdd.fr.size; have HDD := Lib.hid hdd; clear hl3 hf3 hdd hbx)
  have G5 := Lib.hid (show w5.drew.cell? ⟨pb, 1, none⟩ = some (.pointer (some ⟨A.tp, 0, none⟩)) ∧ w5.drew.cell? ⟨pb, 3, none⟩ = some (.int .i64 (P.zxid + 1)) ∧ w5.drew.cell? ⟨w.heap.size, 0, none⟩ = some (.int .i64 se) ∧ w5.drew.cell? ⟨w.heap.size, 1, none⟩ = some (.slice sl on sc) from ⟨y1, y3, x0, x1⟩)
  have HV5 : Hid (SlO 50 w5 (.slice sl on sc) ops) := Lib.hid (by have := HDD.out.ops; simp only [← HON.out] at this; exact this)
  have HPA := Lib.hid (show Pu w5 w5.drew from pu_drew1 _)
  have HPB := Lib.hid (show Pu w5 (w5.alloc (.cells zeroRep 34)).drew from (pu_alloc _ _).tr (pu_drew1 _))
  go_region_held3 (fun (w' : World) => w'.cell? ⟨pb, 1, none⟩ = some (.pointer (some ⟨A.tp, 0, none⟩)) ∧ w'.cell? ⟨pb, 3, none⟩ = some (.int .i64 (P.zxid + 1)) ∧ w'.cell? ⟨w.heap.size, 0, none⟩ = some (.int .i64 se) ∧ w'.cell? ⟨w.heap.size, 1, none⟩ = some (.slice sl on sc)) (first | with_reducible exact G5.out | with_reducible exact G6.out | go_keep)
    (first
      | (go_at_call 48; refine (multi_any (T := P.tree) se (P.zxid + 1) ops _ _ (HDD.out.part.pu (by first | with_reducible exact HPA.out | with_reducible exact HPB.out)).tree HTo.out (HV5.out.pu (by first | with_reducible exact HPA.out | with_reducible exact HPB.out)) (by have := HON.out; omega) HOg.out (HDD.out.gl.pu (by first | with_reducible exact HPA.out | with_reducible exact HPB.out))).mono ?_; rw [← HMd.out]; rintro z w6 ⟨rv, mp6, nb6, rfl, hs6, ht6, hf6, hF6⟩; obtain ⟨ra, rc, rfl⟩ := hs6.len; have hA := hlast.out _ w5 w6 mp6 nb6 HDD.out (by first | with_reducible exact HPA.out | with_reducible exact HPB.out) ht6 hf6 hF6; (try with_reducible have HY6 := Lib.hid (do_after hf6 (al1_drew w5 (.cells zeroRep 34)) (by omega))); (try (have C6 := cells5 HY6.out; obtain ⟨q0, q1, q2, q3, q4, p0, p1, p2, p3, p4⟩ := C6)); have G6 := Lib.hid hA.2; have m1 := World.new_ne w6 _ hA.2.1; have m2 := World.new_ne w6 _ hA.2.2.2.1; have hsz6 := hf6.size; (try simp only [drew_size, World.size_alloc] at hsz6); have HA := Lib.hid hA.1; have e1 := hA.2.1; have e2 := hA.2.2.1; have e3 := hA.2.2.2.1; have e4 := hA.2.2.2.2; have HS6 := Lib.hid hs6; clear hA hs6 ht6 hf6 hF6))
  · have BB := Lib.hid (al1 w6 (.cells #[.int .i64 M.2.1.num, .int .i64 M.2.1.zxid, .int .i64 M.2.1.err, .int .i64 M.2.1.place, .slice ra M.2.1.results.length rc] 34))
    go_wp2
    go_ret2
    exact DecR.of HE.out rfl (HS6.out.pu (pu_alloc _ _)) (PartStep.pu HA.out (pu_alloc _ _))
  · go_wp2
    go_ret2
    exact DecR.of HE.out rfl (SlR.block_kept HS6.out HY6.out (by decide) (by decide) (five_fr _ _ _ _ _)) (PartStep.around HA.out (five_fr _ _ _ _ _) (by omega) HY6.out (by decide))

theorem decide_any {N : Nat} (id : Int) (commit : Bool) (w : World) (h : PartIn w pb A P) (ho : PartOk N P) (hN : N ≤ 500) (hg : Gl w) (hlow : ∀ b, PFoot pb A P b → gB ≤ b) (hi : i64 id) :
    Calls Tryz.prog 15 #[.pointer (some ⟨pb, 0, none⟩), .int .i64 id, .bool commit] w (DecR w pb A P (decideP P id commit)) := by
  cases hx : aget id P.wait with
  | none => exact decide_none id commit w h hi hx
  | some x =>
    by_cases hno : (!commit || x.fails) = true
    · exact decide_not id commit w h ho hN hg hlow hi x hx hno
    · have h1 : commit = true := by cases commit <;> simp_all
      have h2 : x.fails = false := by cases hf : x.fails <;> simp_all
      subst h1
      cases hc : x.close
      · exact decide_do id w h ho hN hg hlow hi x hx h2 hc
      · exact decide_close id w h ho hN hg hlow hi x hx h2 hc

end Go.Proofs.YtmigbgfgnhkmnaaGreatDoor

/- Chapter 18's part: what is right of one stays right. -/
namespace Go.Proofs.YtmigbgfgnhkmnaaGreatDoor
open Go.RowKit Go.Av

theorem onParent_room (T : TreeD) (p : Str) (f : NodeD → Str → NodeD) : (onParent T p f).room = T.room := by
  unfold onParent
  split
  · rfl
  · split <;> rfl
theorem doT_room (T : TreeD) (o : OpD) (sess zxid : Int) (only : Bool) : (doT T o sess zxid only).1.room = T.room := by
  unfold doT
  split
  · rfl
  · split
    · rfl
    · split
      · unfold createT; simp only
        split
        · simp only; split
          · rfl
          · unfold layT; rw [onParent_room]
        · rfl
      · split
        · unfold changeT
          split
          · rfl
          · split
            · rfl
            · split
              · rfl
              · split
                · simp only; split
                  · rfl
                  · exact removeT_room _ _
                · split
                  · simp only; split <;> rfl
                  · rfl
        · rfl
theorem runR_room (T : TreeD) (sess zxid : Int) (l : List OpD) : (runR T sess zxid l).1.room = T.room := by
  have : ∀ (l : List OpD) (a : TreeD × List ResD), (l.foldl (stepR sess zxid) a).1.room = a.1.room := by
    intro l
    induction l with
    | nil => intro a; rfl
    | cons o r ih => intro a; rw [List.foldl_cons, ih]; exact doT_room _ _ _ _ _
  exact this l (T, [])
theorem multiDo_tree (T : TreeD) (sess zxid : Int) (l : List OpD) : (multiDo T sess zxid l).1 = T ∨ (multiDo T sess zxid l).1 = (runR T sess zxid l).1 := by
  unfold multiDo
  split
  · exact .inl rfl
  · split
    · exact .inl rfl
    · split
      · exact .inl rfl
      · exact .inr rfl
theorem multiDo_okT {T : TreeD} (h : TreeOk T) (sess zxid : Int) (l : List OpD) : TreeOk (multiDo T sess zxid l).1 ∧ (multiDo T sess zxid l).1.room = T.room := by
  rcases multiDo_tree T sess zxid l with e | e
  · rw [e]; exact ⟨h, rfl⟩
  · rw [e]; exact ⟨runR_ok h l, runR_room T sess zxid l⟩
theorem multiReq_okT {T : TreeD} (h : TreeOk T) (r : Req) (zxid : Int) : TreeOk (multiReq T r zxid).1 ∧ (multiReq T r zxid).1.room = T.room := by
  unfold multiReq
  split
  · exact ⟨h, rfl⟩
  · exact multiDo_okT h _ _ _
theorem purgeT_room (T : TreeD) (sess : Int) : (purgeT T sess).room = T.room := by
  unfold purgeT
  have : ∀ (l : List Str) (T : TreeD), (l.foldl removeT T).room = T.room := by
    intro l
    induction l with
    | nil => intro T; rfl
    | cons x r ih => intro T; rw [List.foldl_cons, ih, removeT_room]
  exact this _ _

theorem newP_ok {room : Int} (h1 : 1 ≤ room) (h2 : room ≤ 500) : PartOk 0 (newP room) :=
  ⟨rfl, ⟨h1, h2, asorted_nil, (fun x hx => nomatch hx), (fun x hx => nomatch hx), (fun x hx => nomatch hx), by show (0 : Int) ≤ room; omega⟩, ⟨asorted_nil, (fun x hx => nomatch hx), by simp [newP]⟩, Nat.le_refl _, asorted_nil, Nat.le_refl _, asorted_nil, Nat.le_refl _, asorted_nil, Nat.le_refl _, (fun x hx => nomatch hx), (fun x hx => nomatch hx), (fun x hx => nomatch hx), Int.le_refl _, Int.le_refl _⟩

variable {N : Nat} {P : PartD}

theorem PartOk.setTree (h : PartOk N P) {T : TreeD} (ht : TreeOk T) (hr : T.room = P.tree.room) : PartOk N { P with tree := T } :=
  ⟨hr.trans h.room, ht, h.locks, h.lockn, h.wait, h.waitn, h.dec, h.decn, h.clo, h.clon, h.opn, h.opg, h.sess, h.z0, h.z1⟩

theorem localP_ok (h : PartOk N P) (r : Req) : PartOk (N + 1) (localP P r).1 := by
  unfold localP
  split
  · exact h.up (Nat.le_succ N)
  · simp only
    split
    · exact h.count
    · exact PartOk.setTree h.count (multiReq_okT h.tree r _).1 (multiReq_okT h.tree r _).2

theorem putWait_ok (h : PartOk N P) (id : Int) (x : PrepD) (L : LocksD) (hL : LocksOk L) (hl : L.length ≤ 1000 * (N + 1)) (h1 : x.ops.length ≤ 16) (h2 : ∀ o ∈ x.ops, good o.path = true) (h3 : i64 x.sess) : PartOk (N + 1) { P with locks := L, wait := aput id x P.wait } := by
  have k := h.up (Nat.le_succ N)
  have hw := length_aput h.wait id x
  have hw2 := h.waitn
  have hm : ∀ y ∈ aput id x P.wait, y = (id, x) ∨ y ∈ P.wait := fun y hy => by
    rcases mem_aput.1 hy with h | h
    · exact .inl h
    · exact .inr h.1
  refine ⟨k.room, k.tree, hL, hl, aput_sorted k.wait, ?_, k.dec, k.decn, k.clo, k.clon, fun y hy => ?_, fun y hy => ?_, fun y hy => ?_, k.z0, k.z1⟩
  · show (aput id x P.wait).length ≤ _; split at hw <;> omega
  · rcases hm y hy with rfl | h
    · exact h1
    · exact k.opn y h
  · rcases hm y hy with rfl | h
    · exact h2
    · exact k.opg y h
  · rcases hm y hy with rfl | h
    · exact h3
    · exact k.sess y h

theorem prepareP_ok (h : PartOk N P) (hN : N ≤ 500) (id sess : Int) (l : List OpD) (hs : i64 sess) : PartOk (N + 1) (prepareP P id sess l).1 := by
  unfold prepareP
  split
  · exact h.up (Nat.le_succ N)
  · split
    · exact h.up (Nat.le_succ N)
    · rename_i hm
      simp only
      split
      · exact h.up (Nat.le_succ N)
      · obtain ⟨_, _, _, m4, _, m6⟩ := may_ok (r := ⟨sess, 1, l⟩) (by simpa using hm)
        simp only at m4 m6
        have hlk := h.lockn
        obtain ⟨a, b⟩ := takeOps_ok h.locks id l (by omega)
        exact putWait_ok h id ⟨sess, l, false, _⟩ _ a (by omega) m4 m6 hs

theorem closeP_ok (h : PartOk N P) (hN : N ≤ 500) (id sess : Int) (hs : i64 sess) : PartOk (N + 1) (closeP P id sess).1 := by
  unfold closeP
  split
  · exact h.up (Nat.le_succ N)
  · split
    · exact h.up (Nat.le_succ N)
    · split
      · exact h.up (Nat.le_succ N)
      · split
        · exact h.up (Nat.le_succ N)
        · have hlk := h.lockn
          have hn := ofT_len h.tree sess
          obtain ⟨a, b⟩ := takeL_ok h.locks id (ofT P.tree sess) (ofT_good h.tree sess) (by omega)
          exact putWait_ok h id ⟨sess, [], true, false⟩ _ a (by omega) (by simp) (by simp) hs

theorem decideP_ok (h : PartOk N P) (id : Int) (commit : Bool) : PartOk (N + 1) (decideP P id commit).1 := by
  unfold decideP
  split
  · exact h.up (Nat.le_succ N)
  · rename_i x hx
    have k := decided_ok (id := id) h
    simp only
    split
    · exact k
    · split
      · have hc := length_aput h.clo x.sess true
        have hc2 := h.clon
        have k2 := PartOk.setTree k (T := purgeT P.tree x.sess) (purgeT_ok h.tree _) (purgeT_room _ _)
        refine ⟨k2.room, k2.tree, k2.locks, k2.lockn, k2.wait, k2.waitn, k2.dec, k2.decn, aput_sorted h.clo, ?_, k2.opn, k2.opg, k2.sess, k2.z0, k2.z1⟩
        show (aput x.sess true P.closed).length ≤ _
        split at hc <;> omega
      · exact PartOk.setTree k (multiDo_okT h.tree _ _ _).1 (multiDo_okT h.tree _ _ _).2

end Go.Proofs.YtmigbgfgnhkmnaaGreatDoor

/- Package aviarylaw18: long, made, got. -/
namespace Go.Proofs.YtmigbgfgnhkmnaaGreatDoor
open Go.RowKit Go.Av Go.Maps Go.Sort

attribute [local go_sem ↓] Go.wp_at_zero Go.wp_at_succ
attribute [local go_sem] run_makeMap

variable {w w' : World} {pb : Nat} {A : PL} {P : PartD}

/-- More than is asked of. -/
def isLong (o : OpD) : Bool := decide (300 < o.path.length) || decide (1100 < o.data.length)
def longB (l : List OpD) : Bool := decide (20 < l.length) || l.any isLong

theorem longB_no {l : List OpD} (h : longB l = false) : l.length ≤ 20 ∧ ∀ o ∈ l, o.path.length ≤ 300 ∧ o.data.length ≤ 1100 := by
  simp only [longB, Bool.or_eq_false_iff, decide_eq_false_iff_not, List.any_eq_false] at h
  refine ⟨by omega, fun o ho => ?_⟩
  have := h.2 o ho
  simp only [isLong, Bool.or_eq_true, decide_eq_true_eq, not_or] at this
  omega

set_option maxHeartbeats 1000000 in
set_option maxRecDepth 100000 in
theorem longO_any {tO : TypeId} (l : List OpD) (v : Value) (w : World) (h : SlO tO w v l) :
    Calls Tryz.prog 11 #[v] w fun e w' => e = .returned (.bool (longB l)) ∧ w = w' := by
  obtain ⟨a, cap, rfl, hcap⟩ := h.len
  obtain ⟨n, hn⟩ : ∃ n, n = l.length := ⟨_, rfl⟩
  rw [← hn] at h hcap ⊢
  have HN := Lib.hid hn
  have HV := Lib.hid h
  clear h
  by_cases h20 : 20 < n
  · have hL : longB l = true := by simp [longB]; left; omega
    rw [hL]
    clear hn hL
    go_enter Tryz.func11, Tryz.ntmps11
    go_wp2
    go_ret
    exact ⟨rfl, rfl⟩
  · have e : longB l = l.any isLong := by simp [longB]; intro h; omega
    rw [e]
    clear hn e
    go_enter Tryz.func11, Tryz.ntmps11
    go_wp2
    go_loop [3] (fun vi => ∃ k : Nat, vi = .int .i64 k ∧ k ≤ n ∧ Hid ((l.take k).any isLong = false)) (fun vi => n - (intOf vi).toNat)
    case atStart => exact ⟨0, rfl, by omega, Lib.hid (by simp)⟩
    case round =>
      obtain ⟨k, rfl, hk, HA⟩ := hrel
      by_cases hkn : k < n
      · have hk2 : k < l.length := by have := HN.out; omega
        obtain ⟨b, off, cap', hsl, hq, hblt, hq2⟩ := HV.out.pos (by have := HN.out; omega)
        obtain rfl : a = some ⟨b, off, none⟩ := by cases hsl; rfl
        clear hsl hq hq2
        obtain ⟨x0, x1, x2, x3, x4⟩ := SlO.at HV.out k hk2
        obtain ⟨o, ho⟩ : ∃ o, o = l[k] := ⟨_, rfl⟩
        rw [← ho] at x0 x1 x2 x3 x4
        have HO := Lib.hid ho
        clear ho
        have z1 : (k : Int) < (n : Int) := by omega
        cases hlo : isLong o
        · have h1 : o.path.length ≤ 300 ∧ o.data.length ≤ 1100 := by
            simp only [isLong, Bool.or_eq_false_iff, decide_eq_false_iff_not] at hlo
            omega
          obtain ⟨h1, h2⟩ := h1
          have HL := Lib.hid hlo
          clear hlo
          go_wp2
          go_round
          case rel => exact ⟨k + 1, by go_num, by omega, Lib.hid (by rw [List.take_succ_eq_append_getElem hk2, List.any_append, HA.out, ← HO.out]; simp [HL.out])⟩
          case measure => simp [intOf]; omega
        · have HR : Hid (l.any isLong = true) := Lib.hid (List.any_eq_true.2 ⟨l[k], List.getElem_mem hk2, by rw [← HO.out]; exact hlo⟩)
          have HL := Lib.hid hlo
          by_cases hp : 300 < o.path.length
          · clear hlo
            go_wp2
            go_ret
            exact ⟨by rw [HR.out]; rfl, rfl⟩
          · have hd : 1100 < o.data.length := by
              simp only [isLong, Bool.or_eq_true, decide_eq_true_eq] at hlo
              omega
            clear hlo
            go_wp2
            go_ret
            exact ⟨by rw [HR.out]; rfl, rfl⟩
      · have e1 : l.any isLong = false := by have := HA.out; rwa [List.take_of_length_le (by have := HN.out; omega)] at this
        have E1 := Lib.hid e1
        clear e1
        go_wp2
        go_ret
        exact ⟨by rw [E1.out]; rfl, rfl⟩

set_option maxHeartbeats 1000000 in
set_option maxRecDepth 100000 in
theorem long_any (l : List OpD) (v : Value) (w : World) (h : SlX w v l) :
    Calls Tryz.prog 11 #[v] w fun e w' => e = .returned (.bool (longB l)) ∧ w = w' := by
  rcases h with ⟨rfl, a, cap, rfl⟩ | ⟨t, h⟩
  · have e : longB [] = false := rfl
    rw [e]
    clear e
    go_enter Tryz.func11, Tryz.ntmps11
    go_wp2
    refine wp_loop_rounds 1 ?_; rw [rounds_succ]
    go_wp2
    go_ret
    exact ⟨rfl, rfl⟩
  · exact longO_any l v w h

set_option maxHeartbeats 1000000 in
set_option maxRecDepth 100000 in
theorem made_any (p : Str) (fl : Int) (w : World) :
    Calls Tryz.prog 21 #[.string (mkB p), .int .i64 fl] w fun e w' => e = .returned (OpD.val ⟨1, p, [], 0, fl⟩) ∧ Pu w w' := by
  go_enter Tryz.func21, Tryz.ntmps21
  go_wp2
  exact bodyPost_ret (v := OpD.val ⟨1, p, [], 0, fl⟩) (by simp [results, Tryz.results21, go_sem, mkB]) rfl ⟨rfl, pu_alloc _ _⟩

end Go.Proofs.YtmigbgfgnhkmnaaGreatDoor

/- Package aviarylaw18: a part in a law's hand; awake. -/
namespace Go.Proofs.YtmigbgfgnhkmnaaGreatDoor
open Go.RowKit Go.Av Go.Maps Go.Sort

attribute [local go_sem ↓] Go.wp_at_zero Go.wp_at_succ
attribute [local go_sem] run_makeMap

variable {w w' w0 : World} {pb : Nat} {P : PartD} {N : Nat}

/-- A part that the law has made: all of it is new. -/
def LawSt (w0 : World) (pb : Nat) (P : PartD) (w : World) : Prop := ∃ A, PartIn w pb A P ∧ (∀ b, PFoot pb A P b → w0.heap.size ≤ b) ∧ Pu w0 w
/-- The law's own cells are as they were. -/
def Kept (w w' : World) : Prop := w.heap.size ≤ w'.heap.size ∧ ∀ (b : Nat) (c : Array Value) (t : TypeId) (fr : Nat × Nat), w.heap[b]? = some (.cells c t fr) → (t ≠ 117 ∧ t ≠ 124 ∧ t ≠ 89 ∧ t ≠ 152) → w'.heap[b]? = some (.cells c t fr)

theorem Kept.of_pu (h : Pu w w') : Kept w w' := ⟨h.size, fun b _ _ _ hb _ => (h.block b (lt_of_blk hb)).trans hb⟩
theorem Kept.tr {w1 w2 : World} (h : Kept w w1) (k : Kept w1 w2) : Kept w w2 := ⟨Nat.le_trans h.1 k.1, fun b c t fr hb ht => k.2 b c t fr (h.2 b c t fr hb ht) ht⟩
theorem LawSt.gl (h : LawSt w0 pb P w) (hg : Gl w0) : Gl w := by
  obtain ⟨_, _, _, hp⟩ := h; exact hg.pu hp
theorem LawSt.pu (h : LawSt w0 pb P w) (hp : Pu w w') : LawSt w0 pb P w' := by
  obtain ⟨A, h1, h2, h3⟩ := h; exact ⟨A, h1.pu hp, h2, h3.tr hp⟩
theorem LawSt.base (h : LawSt w0 pb P w) : Pu w0 w := by
  obtain ⟨_, _, _, hp⟩ := h; exact hp
theorem gl_gB (hg : Gl w0) : gB ≤ w0.heap.size := by
  obtain ⟨_, h2, h3, _⟩ := hg
  unfold gB; omega
theorem LawSt.step {A : PL} {P' : PartD} (h1 : PartIn w pb A P) (h2 : ∀ b, PFoot pb A P b → w0.heap.size ≤ b) (h3 : Pu w0 w) (k : PartStep w pb A P P' w') : LawSt w0 pb P' w' ∧ Kept w w' := by
  obtain ⟨A', p, f, o⟩ := k
  refine ⟨⟨A', p, fun b hb => ?_, ?_⟩, f.size, fun b c t fr hb ht => h1.cells_of f hb ht⟩
  · rcases o b hb with h | h
    · exact h2 b h
    · exact Nat.le_trans h3.size h
  · exact ((Fr.of_below (M := fun _ => False) h3).trans f fun x hx hm => by have := h2 x hm; omega).to_below

/-- Ops: of the law's arguments, or made by the program. -/
def ArgO (w0 w : World) (v : Value) (l : List OpD) : Prop := SlX w0 v l ∨ SlO 50 w v l
theorem ArgO.now {v : Value} {l : List OpD} (h : ArgO w0 w v l) (hp : Pu w0 w) : SlX w v l := by
  rcases h with h | h
  · exact h.pu hp
  · exact .inr ⟨_, h⟩
theorem ArgO.sep {A : PL} {v : Value} {l : List OpD} (h : ArgO w0 w v l) (h1 : PartIn w pb A P) (h2 : ∀ b, PFoot pb A P b → w0.heap.size ≤ b) (hl : 0 < l.length) : OpSep pb A P v := by
  rcases h with h | h
  · obtain ⟨t, _, ⟨e2, _⟩ | ⟨b, off, cap, cs, fr, e2, _, hb, _⟩⟩ := h.real hl
    · intro a k c e; rw [e] at e2; cases e2
    · intro a k c e hm
      rw [e] at e2; cases e2
      have := h2 _ hm
      have := lt_of_blk hb
      simp only at *
      omega
  · exact OpSep.typed h1 h

theorem lLocal (st : LawSt w0 pb P w) (ho : PartOk N P) (hN : N ≤ 500) (hg : Gl w0) (r : Req) (v : Value) (hv : ArgO w0 w v r.ops) (hp : ∀ o ∈ r.ops, o.path.length ≤ 1000000) (hi : i64 r.sess) :
    Calls Tryz.prog 12 #[.pointer (some ⟨pb, 0, none⟩), .agg #[.int .i64 r.sess, .int .i64 r.num, v]] w fun e w' => ∃ rv, e = .returned (.agg (repCells (localP P r).2 rv).toArray) ∧ SlR 59 9 w' rv (localP P r).2.results ∧ LawSt w0 pb (localP P r).1 w' ∧ Kept w w' := by
  have hgw := st.gl hg
  obtain ⟨A, h1, h2, h3⟩ := st
  refine (local_any r v w h1 ho hN (hv.now h3) (hv.sep h1 h2) hp hgw (fun b hb => Nat.le_trans (gl_gB hg) (h2 b hb)) hi).mono ?_
  rintro e w' ⟨rv, he, hr, hs⟩
  exact ⟨rv, he, hr, LawSt.step h1 h2 h3 hs⟩

theorem lPrep (st : LawSt w0 pb P w) (ho : PartOk N P) (hN : N ≤ 500) (hg : Gl w0) (id sess : Int) (l : List OpD) (v : Value) (hv : ArgO w0 w v l) (hp : ∀ o ∈ l, o.path.length ≤ 1000000) (hi : i64 id) (hs : i64 sess) :
    Calls Tryz.prog 13 #[.pointer (some ⟨pb, 0, none⟩), .int .i64 id, .int .i64 sess, v] w fun e w' => e = .returned (.tuple #[.int .i64 (prepareP P id sess l).2.1, .int .i64 (prepareP P id sess l).2.2]) ∧ LawSt w0 pb (prepareP P id sess l).1 w' ∧ Kept w w' := by
  have hgw := st.gl hg
  obtain ⟨A, h1, h2, h3⟩ := st
  refine (prepare_any id sess l v w h1 ho hN (hv.now h3) (hv.sep h1 h2) hp hgw (fun b hb => Nat.le_trans (gl_gB hg) (h2 b hb)) hi hs).mono ?_
  rintro e w' ⟨he, hs⟩
  exact ⟨he, LawSt.step h1 h2 h3 hs⟩

theorem lClose (st : LawSt w0 pb P w) (ho : PartOk N P) (hN : N ≤ 500) (hg : Gl w0) (id sess : Int) (hi : i64 id) (hs : i64 sess) :
    Calls Tryz.prog 14 #[.pointer (some ⟨pb, 0, none⟩), .int .i64 id, .int .i64 sess] w fun e w' => e = .returned (.tuple #[.int .i64 (closeP P id sess).2.1, .int .i64 (closeP P id sess).2.2]) ∧ LawSt w0 pb (closeP P id sess).1 w' ∧ Kept w w' := by
  have hgw := st.gl hg
  obtain ⟨A, h1, h2, h3⟩ := st
  refine (close_any id sess w h1 ho hN hgw hi hs).mono ?_
  rintro e w' ⟨he, hs⟩
  exact ⟨he, LawSt.step h1 h2 h3 hs⟩

theorem lDec (st : LawSt w0 pb P w) (ho : PartOk N P) (hN : N ≤ 500) (hg : Gl w0) (id : Int) (commit : Bool) (hi : i64 id) :
    Calls Tryz.prog 15 #[.pointer (some ⟨pb, 0, none⟩), .int .i64 id, .bool commit] w fun e w' => ∃ rv, e = .returned (.tuple #[rv, .int .i64 (decideP P id commit).2.2]) ∧ SlR 59 9 w' rv (decideP P id commit).2.1 ∧ LawSt w0 pb (decideP P id commit).1 w' ∧ Kept w w' := by
  have hgw := st.gl hg
  obtain ⟨A, h1, h2, h3⟩ := st
  refine (decide_any id commit w h1 ho hN hgw (fun b hb => Nat.le_trans (gl_gB hg) (h2 b hb)) hi).mono ?_
  rintro e w' ⟨rv, he, hr, hs⟩
  exact ⟨rv, he, hr, LawSt.step h1 h2 h3 hs⟩

theorem lZxid (st : LawSt w0 pb P w) : Calls Tryz.prog 19 #[.pointer (some ⟨pb, 0, none⟩)] w fun e w' => e = .returned (.int .i64 P.zxid) ∧ w = w' := by
  obtain ⟨A, h1, h2, h3⟩ := st; exact zxid_any w h1
theorem lLocks (st : LawSt w0 pb P w) : Calls Tryz.prog 17 #[.pointer (some ⟨pb, 0, none⟩)] w fun e w' => e = .returned (.int .i64 P.locks.length) ∧ w = w' := by
  obtain ⟨A, h1, h2, h3⟩ := st; exact locksP_any w h1
theorem lWanted (st : LawSt w0 pb P w) (ho : PartOk N P) (hN : N ≤ 500) : Calls Tryz.prog 18 #[.pointer (some ⟨pb, 0, none⟩)] w fun e w' => e = .returned (.int .i64 (wantedP P)) ∧ Pu w w' := by
  obtain ⟨A, h1, h2, h3⟩ := st; exact wanted_any w h1 ho (by omega)
theorem lWait (st : LawSt w0 pb P w) (ho : PartOk N P) (hN : N ≤ 500) : Calls Tryz.prog 16 #[.pointer (some ⟨pb, 0, none⟩)] w (OwnI w.heap.size w (P.wait.map (·.1))) := by
  obtain ⟨A, h1, h2, h3⟩ := st; exact waiting_any w h1 ho (by omega)
theorem lNew (room : Int) (w : World) (h1 : 1 ≤ room) (h5 : room ≤ 500) (hp : Pu w0 w) :
    Calls Tryz.prog 10 #[.int .i64 room] w fun e w' => ∃ pb, e = .returned (.tuple #[.pointer (some ⟨pb, 0, none⟩), .int .i64 0]) ∧ LawSt w0 pb (newP room) w' ∧ Pu w w' := by
  refine (newP_any room w h1 h5).mono ?_
  rintro e w' ⟨pb, A, he, h, hpu, hf⟩
  exact ⟨pb, he, ⟨A, h, fun b hb => Nat.le_trans hp.size (hf b hb), hp.tr hpu⟩, hpu⟩

theorem SlO.one (w : World) (o : OpD) : SlO 50 (w.alloc (.cells #[.int .i64 o.kind, .string (mkB o.path), .string (mkB o.data), .int .i64 o.version, .int .i64 o.flags] 50)) (.slice (some ⟨w.heap.size, 0, none⟩) 1 1) [o] :=
  Sl.of_blk (cs := ocells [o]) (fr := (0, 0)) (heap_alloc_new w _) rfl
theorem OwnI.form {B n : Nat} {v : Value} {xs : List Value} (h : w.ownsRow B 2 1 v n xs) : ∃ a cap, v = .slice a n cap := by
  obtain ⟨_, ⟨rfl, rfl⟩ | ⟨g, cap, _, rfl, _⟩⟩ := h
  · exact ⟨_, _, rfl⟩
  · exact ⟨_, _, rfl⟩

theorem sizeReq : (Tryz.prog.info? 37).map (·.size) = some 3 := by kernel_rfl

set_option maxHeartbeats 1000000 in
set_option maxRecDepth 100000 in
theorem got_any (p : Str) (w : World) :
    Calls Tryz.prog 41 #[.string (mkB p)] w fun e w' => ∃ b, e = .returned (.agg #[.int .i64 2, .int .i64 1, .slice (some ⟨b, 0, none⟩) 1 1]) ∧ SlO 50 w' (.slice (some ⟨b, 0, none⟩) 1 1) [⟨5, p, [], 0, 0⟩] ∧ Pu w w' := by
  go_enter Tryz.func41, Tryz.ntmps41
  go_wp2
  refine bodyPost_ret (v := .agg ([.int .i64 2, .int .i64 1, .slice (some ⟨w.heap.size + 1, 0, none⟩) 1 1] : List Value).toArray) (results_cell Tryz.results41 rfl (al2a w (.cells ([.int .i64 2, .int .i64 1, .slice (some ⟨w.heap.size + 1, 0, none⟩) 1 1] : List Value).toArray 37) _) _ Tryz.underlying37 rfl sizeReq) rfl ?_
  have h1 := SlO.one (w.alloc (.cells #[.int .i64 2, .int .i64 1, .slice (some ⟨w.heap.size + 1, 0, none⟩) 1 1] 37)) ⟨5, p, [], 0, 0⟩
  rw [World.size_alloc] at h1
  exact ⟨_, rfl, h1, (pu_alloc _ _).tr (pu_alloc _ _)⟩

/-- One that is prepared: what becomes of it. -/
def opA : OpD := ⟨1, [47, 97], [], 0, 0⟩
def getA : OpD := ⟨5, [47, 97], [], 0, 0⟩
def reqA : Req := ⟨2, 1, [getA]⟩
def Q1 := prepareP (newP 10) 1 1 [opA]
def Q2 := localP Q1.1 reqA
def Q3 := decideP Q2.1 1 true
def Q4 := localP Q3.1 reqA
theorem q1a : Q1.2.1 = 0 := by kernel_rfl
theorem q1b : Q1.2.2 = -1 := by kernel_rfl
theorem q2a : Q2.2.err = 12 := by kernel_rfl
theorem q2b : Q2.2.place = 0 := by kernel_rfl
theorem q3a : Q3.2.2 = 0 := by kernel_rfl
theorem q3b : Q3.2.1.map (·.path) = [[47, 97]] := by kernel_rfl
theorem q4a : Q4.2.err = 0 := by kernel_rfl
theorem q4b : Q4.1.zxid = 3 := by kernel_rfl
theorem q4c : Q4.1.locks.length = 0 := by kernel_rfl
theorem q4d : (Q4.1.wait.map (·.1)).length = 0 := by kernel_rfl
theorem q3l : Q3.2.1.length = 1 := by kernel_rfl
theorem q3c (h : 0 < Q3.2.1.length) : (Q3.2.1[0]'h).path = [47, 97] := by kernel_rfl
theorem i64_1 : i64 1 := by unfold i64; rfl
theorem i64_2 : i64 2 := by unfold i64; rfl
theorem okQ0 : PartOk 0 (newP 10) := newP_ok (by omega) (by omega)
theorem okQ1 : PartOk 1 Q1.1 := prepareP_ok okQ0 (by omega) 1 1 _ i64_1
theorem okQ2 : PartOk 2 Q2.1 := localP_ok okQ1 _
theorem okQ3 : PartOk 3 Q3.1 := decideP_ok okQ2 _ _
theorem okQ4 : PartOk 4 Q4.1 := localP_ok okQ3 _
theorem SlR.at {v : Value} {l : List ResD} (h : SlR 59 9 w v l) (k : Nat) (hk : k < l.length) : ∃ b off cap, v = .slice (some ⟨b, off, none⟩) l.length cap ∧ w.cell? ⟨b, off + k * 11, none⟩ = some (.int .i64 l[k].err) ∧ w.cell? ⟨b, off + k * 11 + 1, none⟩ = some (.string (mkB l[k].path)) ∧ b < w.heap.size ∧ ∃ c fr, w.heap[b]? = some (.cells c 59 fr) := by
  obtain ⟨zs, h1, h2, h3⟩ := h
  have hl : zs.length = l.length := by rw [← h1]; simp
  have hk' : k < zs.length := by omega
  have hz : l[k] = zs[k].1 := by subst h1; simp
  obtain ⟨e1, ⟨rfl, e2⟩ | ⟨b, off, cap, c, fr, rfl, a2, a3, a4, a5⟩⟩ := h2
  · omega
  · have g := fun (i : Nat) (hi : i < 11) => (cell_of_blk (o := off + (k * 11 + i)) a3).trans ((a5 (k * 11 + i) (by rw [rcells_len]; omega)).trans (rcells_get zs k hk' i hi))
    refine ⟨b, off, cap, by rw [hl], ?_, ?_, lt_of_blk a3, c, fr, a3⟩
    · have := g 0 (by omega); rw [hz]; simpa [ResD.cells] using this
    · have := g 1 (by omega); rw [hz, Nat.add_assoc]; simpa [ResD.cells] using this

set_option maxHeartbeats 4000000 in
set_option maxRecDepth 100000 in
theorem awake_any (w : World) (hg : Gl w) :
    Calls Tryz.prog 9 #[] w fun e w' => e = .returned (.bool true) ∧ Pu w w' := by
  have Hg := Lib.hid hg
  clear hg
  go_enter Tryz.func9, Tryz.ntmps9
  go_wp2_with (first
    | (go_at_call 10; refine (lNew (w0 := w) 10 _ (by omega) (by omega) (Below.refl _ _)).mono ?_; rintro e w1 ⟨pb, rfl, st, hp⟩; have S1 := Lib.hid st; clear st hp)
    | (go_at_call 21; refine (made_any [47, 97] 0 _).mono ?_; rintro e w2 ⟨rfl, hp⟩; have S2 := Lib.hid ((S1.out.pu hp).pu (pu_alloc w2 (.cells #[.int .i64 1, .string (mkB [47, 97]), .string (mkB []), .int .i64 0, .int .i64 0] 50))); have V2 := Lib.hid (SlO.one w2 opA); clear hp)
    | (go_at_call 13; refine (lPrep S2.out okQ0 (by omega) Hg.out 1 1 [opA] _ (.inr V2.out) (by decide) i64_1 i64_1).mono ?_; rintro e w3 ⟨he, st, _⟩; have he' : e = .returned (.tuple #[.int .i64 Q1.2.1, .int .i64 Q1.2.2]) := he; rw [q1a, q1b] at he'; subst he'; have S3 := Lib.hid (show LawSt w pb Q1.1 w3 from st); clear st he))
  refine (got_any [47, 97] _).mono ?_
  rintro e w4 ⟨b4, rfl, hv4, hp4⟩
  have S4 := Lib.hid (S3.out.pu hp4)
  have V4 := Lib.hid hv4
  clear hv4 hp4
  go_wp2_with fail
  refine (lLocal S4.out okQ1 (by omega) Hg.out reqA _ (.inr V4.out) (by decide) i64_2).mono ?_
  rintro e w5 ⟨rv5, rfl, hr5, st5, _⟩
  obtain ⟨ra5, rc5, rfl⟩ := hr5.len
  have S5 := Lib.hid ((show LawSt w pb Q2.1 w5 from st5).pu (pu_alloc w5 (.cells (repCells Q2.2 (.slice ra5 Q2.2.results.length rc5)).toArray 34)))
  have B5 := Lib.hid (al1 w5 (.cells (repCells Q2.2 (.slice ra5 Q2.2.results.length rc5)).toArray 34))
  clear st5 hr5
  go_wp2_with fail
  refine (lDec S5.out okQ2 (by omega) Hg.out 1 true i64_1).mono ?_
  rintro e w6 ⟨rv6, he, hr6, st6, k6⟩
  have he' : e = .returned (.tuple #[rv6, .int .i64 Q3.2.2]) := he
  rw [q3a] at he'
  subst he'
  have hr6' : SlR 59 9 w6 rv6 Q3.2.1 := hr6
  obtain ⟨rb, ro, rc, hrv, _, hpc, hrl, rcc, rfr, hblk⟩ := SlR.at hr6' 0 (by rw [q3l]; omega)
  rw [q3l] at hrv
  rw [q3c] at hpc
  subst hrv
  have S6 := Lib.hid (show LawSt w pb Q3.1 w6 from st6)
  have B6 := Lib.hid (k6.2 _ _ _ _ B5.out (by decide))
  have BR := Lib.hid hblk
  have HPC := Lib.hid hpc
  clear st6 k6 hr6 hr6' hpc hblk he
  go_wp2_with fail
  refine (got_any [47, 97] _).mono ?_
  rintro e w7 ⟨b7, rfl, hv7, hp7⟩
  have S7 := Lib.hid (S6.out.pu hp7)
  have V7 := Lib.hid hv7
  have B7 := Lib.hid ((Kept.of_pu hp7).2 _ _ _ _ B6.out (by decide))
  have BR7 := Lib.hid ((Kept.of_pu hp7).2 _ _ _ _ BR.out (by decide))
  clear hv7 hp7
  go_wp2_with fail
  refine (lLocal S7.out okQ3 (by omega) Hg.out reqA _ (.inr V7.out) (by decide) i64_2).mono ?_
  rintro e w8 ⟨rv8, rfl, hr8, st8, k8⟩
  obtain ⟨ra8, rc8, rfl⟩ := hr8.len
  have S8 := Lib.hid ((show LawSt w pb Q4.1 w8 from st8).pu (pu_alloc w8 (.cells (repCells Q4.2 (.slice ra8 Q4.2.results.length rc8)).toArray 34)))
  have B8 := k8.2 _ _ _ _ B7.out (by decide)
  have BR8 := k8.2 _ _ _ _ BR7.out (by decide)
  have y2 : w8.cell? ⟨w5.heap.size, 2, none⟩ = some (.int .i64 12) := by rw [← q2a]; exact cell_of_blk B8
  have y3 : w8.cell? ⟨w5.heap.size, 3, none⟩ = some (.int .i64 0) := by rw [← q2b]; exact cell_of_blk B8
  have hb5 := lt_of_blk B8
  have hbr := lt_of_blk BR8
  have yr : w8.cell? ⟨rb, ro + 1, none⟩ = some (.string (mkB [47, 97])) := by
    have h1 := HPC.out
    rw [show ro + 0 * 11 + 1 = ro + 1 by omega] at h1
    rw [cell_of_blk BR8, ← cell_of_blk BR.out]; exact h1
  have e4 : (localP Q3.1 reqA).2.err = 0 := q4a
  clear st8 hr8 k8 B8 BR8
  go_wp2_with (first
    | (go_at_call 19; refine (lZxid S8.out).mono ?_; rw [q4b]; rintro e w9 ⟨rfl, rfl⟩)
    | (go_at_call 17; refine (lLocks S8.out).mono ?_; rw [q4c]; rintro e w9 ⟨rfl, rfl⟩)
    | (go_at_call 16; refine (lWait S8.out okQ4 (by omega)).mono ?_; rintro e w9 ⟨v9, rfl, ho9, hp9⟩; obtain ⟨a9, c9, rfl⟩ := OwnI.form ho9; rw [q4d]; have HP9 := Lib.hid hp9; clear ho9 hp9))
  go_ret
  exact ⟨rfl, S8.out.base.tr HP9.out⟩

end Go.Proofs.YtmigbgfgnhkmnaaGreatDoor
