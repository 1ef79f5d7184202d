/- Part 8 of a proof in parts: what the code of these packages does, and plain facts about it (Do, Change, Set, Read, Read7, DoAll, Copy, Multi, Request). No condition of its own. -/
import Derived.Test.YtmigbgfgnhkmnaaGreatDoorZx7
/- tree.Tree: create, change, read, do, Do, Try. -/
namespace Go.Proofs.YtmigbgfgnhkmnaaGreatDoor
open Go.RowKit Go.Av

attribute [local go_sem ↓] Go.wp_at_zero Go.wp_at_succ
attribute [local go_sem] run_makeMap

variable {w w' : World} {tp mp : Nat} {nb : Str → Nat} {T : TreeD}

/-- A step of the tree, and its answer. -/
def DoR (w : World) (tp mp : Nat) (nb : Str → Nat) (T : TreeD) (a : TreeD × ResD) (e : Ending) (w' : World) : Prop :=
  ∃ nv, e = .returned (.agg (a.2.cells nv).toArray) ∧ SlS 9 w' nv a.2.names ∧ TreeStep w tp mp nb T a.1 w'

theorem res_all (r : ResD) (a : Option Addr) (k cap : Nat) : ((r.cells (.slice a k cap)).toArray.all fun x => x.oneCell') = true := by simp [ResD.cells, Value.oneCell']

/-- A failure laid into the block of the result. -/
theorem DoR.fails {e : Int} (h : TreeIn w tp mp nb T) {x : Ending} {w4 : World} (hx : x = .returned (.agg ((failRes e).cells (.slice none 0 0)).toArray)) (hp : Pu w w4) : DoR w tp mp nb T (T, failRes e) x w4 :=
  ⟨_, hx, SlS.nil _ _, TreeStep.refl h hp⟩

theorem TreeIn.fr {M : Nat → Prop} (h : TreeIn w tp mp nb T) (k : Fr M w w') (hM : ∀ b, Foot tp mp nb T b → ¬ M b) (hs : ∀ (i : Nat) (c : Array Value) (fr : Nat × Nat), w.heap[i]? = some (.cells c 9 fr) → ¬ M i) : TreeIn w' tp mp nb T :=
  ⟨(k.keep tp (lt_of_blk h.box) (hM _ (.inl rfl))).trans h.box, h.map.fr k (hM _ (.inr (.inl rfl))), fun x hx => (h.node x hx).keep (k.keep _ (h.node x hx).lt (hM _ (.inr (.inr ⟨x, hx, rfl⟩)))) fun i c fr hi => k.keep i (lt_of_blk hi) (hs i c fr hi), h.inj⟩
theorem TreeStep.keep {T' : TreeD} (h : TreeStep w tp mp nb T T' w') {b : Nat} {o : Obj} (_ : b < w.heap.size) (hn : ¬ Foot tp mp nb T b) (hb : w.heap[b]? = some o) : w'.heap[b]? = some o := by
  obtain ⟨nb', _, h2, _⟩ := h
  exact (h2.keep b (lt_of_blk hb) hn).trans hb
/-- New memory ahead of a step; a block of that new memory written behind it. -/
theorem TreeStep.around {T' : TreeD} {W3 w5 w6 : World} {b : Nat} {c : Array Value} {t : TypeId} {fr : Nat × Nat} (h : TreeIn w tp mp nb T) (hp : Pu w W3) (hs : TreeStep W3 tp mp nb T T' w5) (hf : Fr (fun x => x = b) w5 w6) (hb1 : w.heap.size ≤ b) (hb2 : b < W3.heap.size)
    (hc : w5.heap[b]? = some (.cells c t fr)) (ht : t ≠ 9) : TreeStep w tp mp nb T T' w6 := by
  obtain ⟨nb', h1, h2, h3⟩ := hs
  have hlt := fun x hx => h.lt (b := x) hx
  refine ⟨nb', h1.fr hf (fun x hx e => ?_) (fun i c' fr' hi e => ?_), ?_, fun x hx => ?_⟩
  · subst e
    rcases h3 _ hx with h | h
    · have := hlt _ h; omega
    · omega
  · subst e; rw [hc] at hi; cases hi; exact ht rfl
  · refine ((Fr.of_below (M := Foot tp mp nb T) hp).trans h2 fun _ _ h => h).trans hf fun x hx e => by omega
  · rcases h3 x hx with h | h
    · exact .inl h
    · exact .inr (Nat.le_trans hp.size h)

set_option maxHeartbeats 4000000 in
set_option maxRecDepth 100000 in
theorem create_any (o : OpD) (sess zxid : Int) (only : Bool) (w : World) (h : TreeIn w tp mp nb T) (ho : TreeOk T) (hgo : good o.path = true) (hg : Gl w) (hlow : ∀ b, Foot tp mp nb T b → gB ≤ b) :
    Calls Tryz.prog 109 #[.pointer (some ⟨tp, 0, none⟩), o.val, .int .i64 sess, .int .i64 zxid, .bool only] w (DoR w tp mp nb T (createT T o sess zxid only)) := by
  have hgl := good_len hgo
  have P2 := Lib.hid ((pu_alloc w (.cells o.cells.toArray 50)).tr (pu_alloc _ (.cells ((failRes 0).cells (.slice none 0 0)).toArray 59)))
  have B2 := Lib.hid (al2b w (.cells o.cells.toArray 50) (.cells ((failRes 0).cells (.slice none 0 0)).toArray 59))
  have B1 := Lib.hid (al2a w (.cells o.cells.toArray 50) (.cells ((failRes 0).cells (.slice none 0 0)).toArray 59))
  have H := Lib.hid h; have Ho := Lib.hid ho; have Hg := Lib.hid hg; have Hlow := Lib.hid hlow; have Hgo := Lib.hid hgo
  clear h ho hg hlow hgo
  obtain ⟨q, e, hq⟩ : ∃ q e, placeT T o = (q, e) := ⟨_, _, rfl⟩
  by_cases he : e = 0
  · subst he
    have hok := placeT_ok Hgo.out hq
    have ec : createT T o sess zxid only = (if only then T else layT T q (newN zxid (if ephB o.flags then sess else 0) o.data), ⟨0, q, [], [], (newN zxid (if ephB o.flags then sess else 0) o.data).stat⟩) := by simp [createT, hq]
    rw [ec]
    obtain ⟨n, hn⟩ : ∃ n, n = newN zxid (if ephB o.flags then sess else 0) o.data := ⟨_, rfl⟩
    rw [← hn]
    have HQ := Lib.hid hq
    have Hok := Lib.hid hok
    have hql := good_len hok.1
    have NE : ∀ n : NodeD, n = newN zxid (if ephB o.flags then sess else 0) o.data → NodeOk n ∧ n.names = [] := fun n hn => by subst hn; exact ⟨newN_ok _ _ _, rfl⟩
    have hno := Lib.hid (NE n hn)
    obtain ⟨ow, how⟩ : ∃ ow : Int, ow = if ephB o.flags then sess else 0 := ⟨_, rfl⟩
    rw [← how] at hn
    have HN := Lib.hid hn
    have How := Lib.hid how
    clear hn hq ec hok NE how
    obtain ⟨k, p, d, v, f⟩ := o
    simp only at *
    have bb : ∃ c : Bool, (bits BinOp.and IntKind.i64 f 1 == 0) = !c ∧ ow = if c then sess else 0 := ⟨ephB f, by simp [ephB, bne], How.out⟩
    obtain ⟨c, hc, hoc⟩ := bb
    have Hoc := Lib.hid hoc; clear hoc
    cases c <;> cases only
    all_goals
      have hoc' : ow = _ := Hoc.out.trans (by first | exact if_pos rfl | exact if_neg (by decide))
      subst hoc'
      simp only [Bool.not_true, Bool.not_false] at hc
      go_enter Tryz.func109, Tryz.ntmps109
      go_wp2_with (first
        | (go_at_call 138; refine (place_any ⟨k, p, d, v, f⟩ _ (H.out.pu P2.out) (by show p.length ≤ 1000; omega) (Hg.out.pu P2.out)).mono ?_; rw [HQ.out, placeV]; rintro x w1 ⟨rfl, hb1⟩; have qf : w1.cell? ⟨w.heap.size, 4, none⟩ = some (.int .i64 f) := cell_of_blk ((hb1.block _ (lt_of_blk B1.out)).trans B1.out); have qd : w1.cell? ⟨w.heap.size, 2, none⟩ = some (.string (mkB d)) := cell_of_blk ((hb1.block _ (lt_of_blk B1.out)).trans B1.out); have HB1 := Lib.hid hb1; clear hb1)
        | (go_at_call 139; refine (newN_any zxid _ d _).mono ?_; rw [← HN.out]; rintro x w2 ⟨rfl, hb2⟩; have HB2 := Lib.hid hb2; clear hb2)
        | (refine wpl_store_whole rfl 59 (.tmp 10) (.tmp 44) rfl (w.heap.size + 1) (ResD.cells ⟨0, q, [], [], n.stat⟩ (.slice none 0 0)).toArray rfl rfl _ _ (al_old _ _ ((HB2.out.block _ (Nat.lt_of_lt_of_le (lt_of_blk B2.out) HB1.out.size)).trans ((HB1.out.block _ (lt_of_blk B2.out)).trans B2.out))) (by rfl) sizeRes (res_all _ _ _ _) ?_; intro w6 hB6 hF6 hs6))
      have P3 : Hid (Pu w (w2.alloc (.cells (n.cells (.slice none 0 0)).toArray 124))) := Lib.hid (((P2.out.tr HB1.out).tr HB2.out).tr (pu_alloc _ _))
      have B3 : Hid ((w2.alloc (.cells (n.cells (.slice none 0 0)).toArray 124)).heap[w.heap.size + 1]? = some (.cells ((failRes 0).cells (.slice none 0 0)).toArray 59 (0, 0))) :=
        Lib.hid (al_old _ _ ((HB2.out.block _ (Nat.lt_of_lt_of_le (lt_of_blk B2.out) HB1.out.size)).trans ((HB1.out.block _ (lt_of_blk B2.out)).trans B2.out)))
      have hlt2 : w.heap.size + 1 < w2.heap.size := Nat.lt_of_lt_of_le (Nat.lt_of_lt_of_le (lt_of_blk B2.out) HB1.out.size) HB2.out.size
      have hfin : ∀ (T' : TreeD) (w5 w6 : World) (cc : Array Value), TreeStep (w2.alloc (.cells (n.cells (.slice none 0 0)).toArray 124)) tp mp nb T T' w5 → w5.heap[w.heap.size + 1]? = some (.cells cc 59 (0, 0)) → Fr (fun x => x = w.heap.size + 1) w5 w6 → TreeStep w tp mp nb T T' w6 :=
        fun T' w5 w6 cc h5 hc hf => TreeStep.around H.out P3.out h5 hf (by omega) (by simp; omega) hc (by decide)
      have N3 : Hid ((w2.alloc (.cells (n.cells (.slice none 0 0)).toArray 124)).heap[w2.heap.size]? = some (.cells (n.cells (.slice none 0 0)).toArray 124 (0, 0))) := Lib.hid (al1 _ _)
      have Hfin := Lib.hid hfin
      clear hfin
      first
        | (refine bodyPost_ret (v := .agg (ResD.cells ⟨0, q, [], [], n.stat⟩ (.slice none 0 0)).toArray) (results_cell Tryz.results109 rfl hB6 _ Tryz.underlying59 rfl sizeRes) rfl ?_
           exact ⟨_, rfl, SlS.nil _ _, Hfin.out _ _ _ _ (TreeStep.refl (H.out.pu P3.out) (Below.refl _ _)) B3.out hF6⟩)
        | (refine (lay_any q n (.slice none 0 0) _ (H.out.pu P3.out) Ho.out.rise (by have := Ho.out.many; have := Ho.out.room1; omega) (fun x hx => ?_) (by omega) (by rw [hno.out.2]; exact SlS.nil _ _) (Hg.out.pu P3.out) Hlow.out).mono ?_
           · rcases mem_aput.1 hx with rfl | ⟨hx, _⟩
             · exact hno.out.1
             · exact Ho.out.node x hx
           · rintro x w5 ⟨rfl, hs5⟩
             have B5 : Hid (w5.heap[w.heap.size + 1]? = some (.cells ((failRes 0).cells (.slice none 0 0)).toArray 59 (0, 0))) := Lib.hid (hs5.keep (lt_of_blk B3.out) (fun hb => by have := H.out.lt hb; omega) B3.out)
             have q5 := fun o => cell_of_blk (o := o) (hs5.keep (lt_of_blk N3.out) (fun hb => by have := H.out.lt hb; omega) N3.out)
             simp only [NodeD.cells] at q5
             have HS5 := Lib.hid hs5
             clear hs5
             go_wp2_with (refine wpl_store_whole rfl 59 (.tmp 10) (.tmp 44) rfl (w.heap.size + 1) (ResD.cells ⟨0, q, [], [], n.stat⟩ (.slice none 0 0)).toArray rfl rfl _ _ B5.out (by rfl) sizeRes (res_all _ _ _ _) ?_; intro w6 hB6 hF6 hs6)
             refine bodyPost_ret (v := .agg (ResD.cells ⟨0, q, [], [], n.stat⟩ (.slice none 0 0)).toArray) (results_cell Tryz.results109 rfl hB6 _ Tryz.underlying59 rfl sizeRes) rfl ?_
             exact ⟨_, rfl, SlS.nil _ _, Hfin.out _ _ _ _ HS5.out B5.out hF6⟩)
  · have ec : createT T o sess zxid only = (T, failRes e) := by simp [createT, hq, he]
    rw [ec]
    have HQ := Lib.hid hq
    clear hq ec
    obtain ⟨k, p, d, v, f⟩ := o
    simp only at *
    go_enter Tryz.func109, Tryz.ntmps109
    go_wp2_with (first
      | (go_at_call 138; refine (place_any ⟨k, p, d, v, f⟩ _ (H.out.pu P2.out) (by show p.length ≤ 1000; omega) (Hg.out.pu P2.out)).mono ?_; rw [HQ.out, placeV]; rintro x w1 ⟨rfl, hb1⟩; have HB1 := Lib.hid hb1; clear hb1)
      | (go_at_call 108; refine (failT_any e _).mono ?_; rintro x w3 ⟨rfl, hb3⟩; have HB3 := Lib.hid hb3; clear hb3)
      | (refine wpl_store_whole rfl 59 (.tmp 10) (.tmp 24) rfl (w.heap.size + 1) ((failRes e).cells (.slice none 0 0)).toArray rfl rfl _ _ ((HB3.out.block _ (Nat.lt_of_lt_of_le (lt_of_blk B2.out) HB1.out.size)).trans ((HB1.out.block _ (lt_of_blk B2.out)).trans B2.out)) (by rfl) sizeRes (res_all _ _ _ _) ?_; intro w4 hB4 hF4 hs4))
    refine bodyPost_ret (v := .agg ((failRes e).cells (.slice none 0 0)).toArray) (results_cell Tryz.results109 rfl hB4 _ Tryz.underlying59 rfl sizeRes) rfl ?_
    exact DoR.fails H.out rfl (pu_of_fr ((P2.out.tr HB1.out).tr HB3.out) hF4 (by omega))

end Go.Proofs.YtmigbgfgnhkmnaaGreatDoor

/- tree.Tree: change. -/
namespace Go.Proofs.YtmigbgfgnhkmnaaGreatDoor
open Go.RowKit Go.Av

attribute [local go_sem ↓] Go.wp_at_zero Go.wp_at_succ
attribute [local go_sem] run_makeMap

variable {w w' : World} {tp mp : Nat} {nb : Str → Nat} {T : TreeD}

def ResD.withStat (r : ResD) (s : StatD) : ResD := { r with stat := s }
def statCells (s : StatD) : List Value := [.int .i64 s.made, .int .i64 s.changed, .int .i64 s.version, .int .i64 s.kids, .int .i64 s.owner, .int .i64 s.length, .int .i64 s.count]
attribute [go_sem] statCells
theorem sizeStat : (Tryz.prog.info? 57).map (·.size) = some 7 := by kernel_rfl

/-- A stat laid into the block of a result. -/
theorem wpl_store_stat {ops : Array Oper} {rest : List Oper} {o : Oper} {a : Act} {w : World} {Q : Exit → Act → World → Prop} (hgd : o.guard = none) (x y : Operand) (ho : o.op = .store 57 x y)
    (b : Nat) (s : StatD) (hx : a.eval x = .pointer (some ⟨b, 4, none⟩)) (hy : a.eval y = .agg (statCells s).toArray) (r : ResD) (nv : Value) (hb : w.heap[b]? = some (.cells (r.cells nv).toArray 59 (0, 0)))
    (h : ∀ w', w'.heap[b]? = some (.cells ((ResD.withStat r s).cells nv).toArray 59 (0, 0)) → Fr (fun x => x = b) w w' → w'.heap.size = w.heap.size → wpList Tryz.prog ops Q rest (a.put o.dst undef) w') : wpList Tryz.prog ops Q (o :: rest) a w :=
  wpList_store_mid hgd 57 x y ho b 4 (statCells s).toArray hx hy (there_of_blk hb 4 _ (by simp [statCells, ResD.cells])) sizeStat (by simp [statCells, Value.oneCell'])
    (h _ (by
      have := setCell_blk (setCell_blk (setCell_blk (setCell_blk (setCell_blk (setCell_blk (setCell_blk hb 4 (.int .i64 s.made)) 5 (.int .i64 s.changed)) 6 (.int .i64 s.version)) 7 (.int .i64 s.kids)) 8 (.int .i64 s.owner)) 9 (.int .i64 s.length)) 10 (.int .i64 s.count)
      simpa [statCells, World.setCells, ResD.cells, ResD.withStat] using this) (setCells_fr b _ _ _) (setCells_size b _ _ _))

/-- The cells of no result. -/
abbrev zeroRes : Array Value := #[.int .i64 0, .string ⟨#[]⟩, .string ⟨#[]⟩, .slice none 0 0, .int .i64 0, .int .i64 0, .int .i64 0, .int .i64 0, .int .i64 0, .int .i64 0, .int .i64 0]

/-- The start of a walk that boxes the op and lays a result. -/
structure Start2 (w : World) (tp mp : Nat) (nb : Str → Nat) (T : TreeD) (o : OpD) (W : World) : Prop where
  pu : Pu w W
  box : W.heap[w.heap.size]? = some (.cells #[.int .i64 o.kind, .string (mkB o.path), .string (mkB o.data), .int .i64 o.version, .int .i64 o.flags] 50 (0, 0))
  res : W.heap[w.heap.size + 1]? = some (.cells ((failRes 0).cells (.slice none 0 0)).toArray 59 (0, 0))
theorem start2 (w : World) (tp mp : Nat) (nb : Str → Nat) (T : TreeD) (o : OpD) : Start2 w tp mp nb T o ((w.alloc (.cells #[.int .i64 o.kind, .string (mkB o.path), .string (mkB o.data), .int .i64 o.version, .int .i64 o.flags] 50)).alloc (.cells zeroRes 59)) :=
  ⟨(pu_alloc _ _).tr (pu_alloc _ _), al2a _ _ _, al2b _ _ _⟩
theorem Start2.on {o : OpD} {W W' : World} (h : Start2 w tp mp nb T o W) (hp : Pu W W') : Start2 w tp mp nb T o W' :=
  ⟨h.pu.tr hp, (hp.block _ (lt_of_blk h.box)).trans h.box, (hp.block _ (lt_of_blk h.res)).trans h.res⟩

set_option maxHeartbeats 4000000 in
set_option maxRecDepth 100000 in
theorem change_none (o : OpD) (zxid : Int) (only : Bool) (w : World) (h : TreeIn w tp mp nb T) (hgo : good o.path = true) (hn : aget o.path T.nodes = none) :
    Calls Tryz.prog 110 #[.pointer (some ⟨tp, 0, none⟩), o.val, .int .i64 zxid, .bool only] w (DoR w tp mp nb T (T, failRes 4)) := by
  have hgl := good_len hgo
  have S := Lib.hid ((start2 w tp mp nb T o).on (pu_drew _))
  have c1 := (h.pu S.out.pu).cell1
  have l1 := (h.pu S.out.pu).look_none o.path (by omega) hn
  have H := Lib.hid h
  clear h hn hgo
  obtain ⟨k, p, d, v, f⟩ := o
  simp only [zeroRes] at *
  go_enter Tryz.func110, Tryz.ntmps110
  go_wp2
  go_region_with fail
  all_goals
    go_wp2_with (first
      | (go_at_call 108; refine (failT_any 4 _).mono ?_; rintro x w3 ⟨rfl, hb3⟩; have HB3 := Lib.hid hb3; clear hb3)
      | (refine wpl_store_whole rfl 59 (.tmp 8) (.tmp 22) rfl (w.heap.size + 1) ((failRes 4).cells (.slice none 0 0)).toArray rfl rfl _ _ (S.out.on HB3.out).res (by rfl) sizeRes (res_all _ _ _ _) ?_; intro w4 hB4 hF4 hs4))
    refine bodyPost_ret (v := .agg ((failRes 4).cells (.slice none 0 0)).toArray) (results_cell Tryz.results110 rfl hB4 _ Tryz.underlying59 rfl sizeRes) rfl ?_
    exact DoR.fails H.out rfl (pu_of_fr (S.out.on HB3.out).pu hF4 (by omega))


set_option maxHeartbeats 4000000 in
set_option maxRecDepth 100000 in
theorem change_ver (o : OpD) (zxid : Int) (only : Bool) (w : World) (h : TreeIn w tp mp nb T) (hgo : good o.path = true) (n : NodeD) (hn : aget o.path T.nodes = some n) (hw : wrongV o n = true) :
    Calls Tryz.prog 110 #[.pointer (some ⟨tp, 0, none⟩), o.val, .int .i64 zxid, .bool only] w (DoR w tp mp nb T (T, failRes 6)) := by
  have hgl := good_len hgo
  have S := Lib.hid ((start2 w tp mp nb T o).on (pu_drew _))
  have c1 := (h.pu S.out.pu).cell1
  have l1 := (h.pu S.out.pu).look_some o.path (by omega) hn
  have NA := Lib.hid ((h.pu S.out.pu).node _ (aget_mem hn))
  obtain ⟨nv, hb, hnv⟩ := NA.out
  obtain ⟨na, ncap, rfl⟩ := hnv.len
  have HNb := Lib.hid hb
  have HNv := Lib.hid hnv
  have H := Lib.hid h
  have HW := Lib.hid hw
  have HA := Lib.hid (aget_mem hn)
  clear h hn hgo hb hnv hw
  obtain ⟨k, p, d, v, f⟩ := o
  simp only [zeroRes] at *
  go_enter Tryz.func110, Tryz.ntmps110
  go_wp2
  go_region_with fail
  all_goals
    go_wp2_with (first
      | (go_at_call 141; refine (wrongV_any ⟨k, p, d, v, f⟩ (nb p) n _ NA.out).mono ?_; rw [HW.out]; rintro x w3 ⟨rfl, hb3⟩; have S3 := Lib.hid (S.out.on hb3); have qk : w3.cell? ⟨w.heap.size, 0, none⟩ = some (.int .i64 k) := cell_of_blk S3.out.box; have qp : w3.cell? ⟨w.heap.size, 1, none⟩ = some (.string (mkB p)) := cell_of_blk S3.out.box; have qd : w3.cell? ⟨w.heap.size, 2, none⟩ = some (.string (mkB d)) := cell_of_blk S3.out.box; have HN3 := Lib.hid ((hb3.block _ (lt_of_blk HNb.out)).trans HNb.out); have qn : w3.cell? ⟨nb p, 9, none⟩ = some (.slice na n.names.length ncap) := cell_of_blk HN3.out; have hlt3 : w.heap.size < w3.heap.size := lt_of_blk S3.out.box; have hlt3' : w.heap.size + 1 < w3.heap.size := lt_of_blk S3.out.res; have HB3 := Lib.hid hb3; clear hb3)
      | (go_at_call 108; refine (failT_any 6 _).mono ?_; rintro x w4 ⟨rfl, hb4⟩; have HB4 := Lib.hid hb4; clear hb4)
      | (refine wpl_store_whole rfl 59 (.tmp 8) (.tmp 27) rfl (w.heap.size + 1) (((failRes 6).cells (.slice none 0 0)).toArray) rfl rfl _ _ (S3.out.on HB4.out).res (by rfl) sizeRes (res_all _ _ _ _) ?_; intro w9 hB9 hF9 hs9))
    refine bodyPost_ret (v := .agg (((failRes 6).cells (.slice none 0 0)).toArray)) (results_cell Tryz.results110 rfl hB9 _ Tryz.underlying59 rfl sizeRes) rfl ?_
    exact DoR.fails H.out rfl (pu_of_fr (S3.out.on HB4.out).pu hF9 (by omega))


set_option maxHeartbeats 4000000 in
set_option maxRecDepth 100000 in
theorem change_kids (o : OpD) (zxid : Int) (only : Bool) (w : World) (h : TreeIn w tp mp nb T) (hgo : good o.path = true) (n : NodeD) (hn : aget o.path T.nodes = some n) (hw : wrongV o n = false) (hk : o.kind = 2) (hl : 0 < n.names.length) :
    Calls Tryz.prog 110 #[.pointer (some ⟨tp, 0, none⟩), o.val, .int .i64 zxid, .bool only] w (DoR w tp mp nb T (T, failRes 7)) := by
  have hgl := good_len hgo
  have S := Lib.hid ((start2 w tp mp nb T o).on (pu_drew _))
  have c1 := (h.pu S.out.pu).cell1
  have l1 := (h.pu S.out.pu).look_some o.path (by omega) hn
  have NA := Lib.hid ((h.pu S.out.pu).node _ (aget_mem hn))
  obtain ⟨nv, hb, hnv⟩ := NA.out
  obtain ⟨na, ncap, rfl⟩ := hnv.len
  have HNb := Lib.hid hb
  have HNv := Lib.hid hnv
  have H := Lib.hid h
  have HW := Lib.hid hw
  have HA := Lib.hid (aget_mem hn)
  clear h hn hgo hb hnv hw
  obtain ⟨k, p, d, v, f⟩ := o
  simp only [zeroRes] at *
  subst hk
  go_enter Tryz.func110, Tryz.ntmps110
  go_wp2
  go_region_with fail
  all_goals
    go_wp2_with (first
      | (go_at_call 141; refine (wrongV_any ⟨2, p, d, v, f⟩ (nb p) n _ NA.out).mono ?_; rw [HW.out]; rintro x w3 ⟨rfl, hb3⟩; have S3 := Lib.hid (S.out.on hb3); have qk : w3.cell? ⟨w.heap.size, 0, none⟩ = some (.int .i64 2) := cell_of_blk S3.out.box; have qp : w3.cell? ⟨w.heap.size, 1, none⟩ = some (.string (mkB p)) := cell_of_blk S3.out.box; have qd : w3.cell? ⟨w.heap.size, 2, none⟩ = some (.string (mkB d)) := cell_of_blk S3.out.box; have HN3 := Lib.hid ((hb3.block _ (lt_of_blk HNb.out)).trans HNb.out); have qn : w3.cell? ⟨nb p, 9, none⟩ = some (.slice na n.names.length ncap) := cell_of_blk HN3.out; have hlt3 : w.heap.size < w3.heap.size := lt_of_blk S3.out.box; have hlt3' : w.heap.size + 1 < w3.heap.size := lt_of_blk S3.out.res; have HB3 := Lib.hid hb3; clear hb3)
      | (go_at_call 108; refine (failT_any 7 _).mono ?_; rintro x w4 ⟨rfl, hb4⟩; have HB4 := Lib.hid hb4; clear hb4)
      | (refine wpl_store_whole rfl 59 (.tmp 8) (.tmp 40) rfl (w.heap.size + 1) (((failRes 7).cells (.slice none 0 0)).toArray) rfl rfl _ _ (S3.out.on HB4.out).res (by rfl) sizeRes (res_all _ _ _ _) ?_; intro w9 hB9 hF9 hs9))
    refine bodyPost_ret (v := .agg (((failRes 7).cells (.slice none 0 0)).toArray)) (results_cell Tryz.results110 rfl hB9 _ Tryz.underlying59 rfl sizeRes) rfl ?_
    exact DoR.fails H.out rfl (pu_of_fr (S3.out.on HB4.out).pu hF9 (by omega))


set_option maxHeartbeats 4000000 in
set_option maxRecDepth 100000 in
theorem change_check (o : OpD) (zxid : Int) (only : Bool) (w : World) (h : TreeIn w tp mp nb T) (hgo : good o.path = true) (n : NodeD) (hn : aget o.path T.nodes = some n) (hw : wrongV o n = false) (hk2 : o.kind ≠ 2) (hk3 : o.kind ≠ 3) :
    Calls Tryz.prog 110 #[.pointer (some ⟨tp, 0, none⟩), o.val, .int .i64 zxid, .bool only] w (DoR w tp mp nb T (T, ⟨0, o.path, [], [], StatD.zero⟩)) := by
  have hgl := good_len hgo
  have S := Lib.hid ((start2 w tp mp nb T o).on (pu_drew _))
  have c1 := (h.pu S.out.pu).cell1
  have l1 := (h.pu S.out.pu).look_some o.path (by omega) hn
  have NA := Lib.hid ((h.pu S.out.pu).node _ (aget_mem hn))
  obtain ⟨nv, hb, hnv⟩ := NA.out
  obtain ⟨na, ncap, rfl⟩ := hnv.len
  have HNb := Lib.hid hb
  have HNv := Lib.hid hnv
  have H := Lib.hid h
  have HW := Lib.hid hw
  have HA := Lib.hid (aget_mem hn)
  clear h hn hgo hb hnv hw
  obtain ⟨k, p, d, v, f⟩ := o
  simp only [zeroRes] at *
  have e2 : (k == 2) = false := by simpa using hk2
  have e3 : (k == 3) = false := by simpa using hk3
  go_enter Tryz.func110, Tryz.ntmps110
  go_wp2
  go_region_with fail
  all_goals
    go_wp2_with (first
      | (go_at_call 141; refine (wrongV_any ⟨k, p, d, v, f⟩ (nb p) n _ NA.out).mono ?_; rw [HW.out]; rintro x w3 ⟨rfl, hb3⟩; have S3 := Lib.hid (S.out.on hb3); have qk : w3.cell? ⟨w.heap.size, 0, none⟩ = some (.int .i64 k) := cell_of_blk S3.out.box; have qp : w3.cell? ⟨w.heap.size, 1, none⟩ = some (.string (mkB p)) := cell_of_blk S3.out.box; have qd : w3.cell? ⟨w.heap.size, 2, none⟩ = some (.string (mkB d)) := cell_of_blk S3.out.box; have HN3 := Lib.hid ((hb3.block _ (lt_of_blk HNb.out)).trans HNb.out); have qn : w3.cell? ⟨nb p, 9, none⟩ = some (.slice na n.names.length ncap) := cell_of_blk HN3.out; have hlt3 : w.heap.size < w3.heap.size := lt_of_blk S3.out.box; have hlt3' : w.heap.size + 1 < w3.heap.size := lt_of_blk S3.out.res; have HB3 := Lib.hid hb3; clear hb3)
      | (refine wpl_store_whole rfl 59 (.tmp 8) (.tmp 75) rfl (w.heap.size + 1) ((ResD.cells ⟨0, p, [], [], StatD.zero⟩ (.slice none 0 0)).toArray) rfl rfl _ _ (S3.out.on (pu_alloc _ _)).res (by rfl) sizeRes (res_all _ _ _ _) ?_; intro w9 hB9 hF9 hs9))
    refine bodyPost_ret (v := .agg ((ResD.cells ⟨0, p, [], [], StatD.zero⟩ (.slice none 0 0)).toArray)) (results_cell Tryz.results110 rfl hB9 _ Tryz.underlying59 rfl sizeRes) rfl ?_
    exact ⟨_, rfl, SlS.nil _ _, TreeStep.refl H.out (pu_of_fr (S3.out.on (pu_alloc _ _)).pu hF9 (by omega))⟩



set_option maxHeartbeats 4000000 in
set_option maxRecDepth 100000 in
theorem change_try (o : OpD) (zxid : Int) (only : Bool) (w : World) (h : TreeIn w tp mp nb T) (ho : TreeOk T) (hgo : good o.path = true) (n : NodeD) (hn : aget o.path T.nodes = some n) (hg : Gl w) (hlow : ∀ b, Foot tp mp nb T b → gB ≤ b) (hw : wrongV o n = false) (hk2 : o.kind = 2) (hl : n.names.length = 0) (ho' : only = true) :
    Calls Tryz.prog 110 #[.pointer (some ⟨tp, 0, none⟩), o.val, .int .i64 zxid, .bool only] w (DoR w tp mp nb T (T, ⟨0, o.path, [], [], StatD.zero⟩)) := by
  have hgl := good_len hgo
  have S := Lib.hid ((start2 w tp mp nb T o).on (pu_drew _))
  have c1 := (h.pu S.out.pu).cell1
  have l1 := (h.pu S.out.pu).look_some o.path (by omega) hn
  have NA := Lib.hid ((h.pu S.out.pu).node _ (aget_mem hn))
  obtain ⟨nv, hb, hnv⟩ := NA.out
  obtain ⟨na, ncap, rfl⟩ := hnv.len
  have HNb := Lib.hid hb
  have HNv := Lib.hid hnv
  have H := Lib.hid h
  have HW := Lib.hid hw
  have HA := Lib.hid (aget_mem hn)
  have HG := Lib.hid hg
  have Ho := Lib.hid ho
  have HL := Lib.hid hlow
  have HAg := Lib.hid hn
  clear h hn hgo hb hnv hw hg ho hlow
  obtain ⟨k, p, d, v, f⟩ := o
  simp only [zeroRes] at *
  subst hk2
  subst ho'
  go_enter Tryz.func110, Tryz.ntmps110
  go_wp2
  go_region_with fail
  all_goals
    go_wp2_with (first
      | (go_at_call 141; refine (wrongV_any ⟨2, p, d, v, f⟩ (nb p) n _ NA.out).mono ?_; rw [HW.out]; rintro x w3 ⟨rfl, hb3⟩; have S3 := Lib.hid (S.out.on hb3); have qk : w3.cell? ⟨w.heap.size, 0, none⟩ = some (.int .i64 2) := cell_of_blk S3.out.box; have qp : w3.cell? ⟨w.heap.size, 1, none⟩ = some (.string (mkB p)) := cell_of_blk S3.out.box; have qd : w3.cell? ⟨w.heap.size, 2, none⟩ = some (.string (mkB d)) := cell_of_blk S3.out.box; have HN3 := Lib.hid ((hb3.block _ (lt_of_blk HNb.out)).trans HNb.out); have qn : w3.cell? ⟨nb p, 9, none⟩ = some (.slice na n.names.length ncap) := cell_of_blk HN3.out; have hlt3 : w.heap.size < w3.heap.size := lt_of_blk S3.out.box; have hlt3' : w.heap.size + 1 < w3.heap.size := lt_of_blk S3.out.res; have HB3 := Lib.hid hb3; clear hb3)
      | (refine wpl_store_whole rfl 59 (.tmp 8) (.tmp 75) rfl (w.heap.size + 1) ((ResD.cells ⟨0, p, [], [], StatD.zero⟩ (.slice none 0 0)).toArray) rfl rfl _ _ (S3.out.on (pu_alloc _ _)).res (by rfl) sizeRes (res_all _ _ _ _) ?_; intro w9 hB9 hF9 hs9))
    refine bodyPost_ret (v := .agg ((ResD.cells ⟨0, p, [], [], StatD.zero⟩ (.slice none 0 0)).toArray)) (results_cell Tryz.results110 rfl hB9 _ Tryz.underlying59 rfl sizeRes) rfl ?_
    exact ⟨_, rfl, SlS.nil _ _, TreeStep.refl H.out (pu_of_fr (S3.out.on (pu_alloc _ _)).pu hF9 (by omega))⟩


set_option maxHeartbeats 4000000 in
set_option maxRecDepth 100000 in
theorem change_del (o : OpD) (zxid : Int) (only : Bool) (w : World) (h : TreeIn w tp mp nb T) (ho : TreeOk T) (hgo : good o.path = true) (n : NodeD) (hn : aget o.path T.nodes = some n) (hg : Gl w) (hlow : ∀ b, Foot tp mp nb T b → gB ≤ b) (hw : wrongV o n = false) (hk2 : o.kind = 2) (hl : n.names.length = 0) (ho' : only = false) :
    Calls Tryz.prog 110 #[.pointer (some ⟨tp, 0, none⟩), o.val, .int .i64 zxid, .bool only] w (DoR w tp mp nb T (removeT T o.path, ⟨0, o.path, [], [], StatD.zero⟩)) := by
  have hgl := good_len hgo
  have S := Lib.hid ((start2 w tp mp nb T o).on (pu_drew _))
  have c1 := (h.pu S.out.pu).cell1
  have l1 := (h.pu S.out.pu).look_some o.path (by omega) hn
  have NA := Lib.hid ((h.pu S.out.pu).node _ (aget_mem hn))
  obtain ⟨nv, hb, hnv⟩ := NA.out
  obtain ⟨na, ncap, rfl⟩ := hnv.len
  have HNb := Lib.hid hb
  have HNv := Lib.hid hnv
  have H := Lib.hid h
  have HW := Lib.hid hw
  have HA := Lib.hid (aget_mem hn)
  have HG := Lib.hid hg
  have Ho := Lib.hid ho
  have HL := Lib.hid hlow
  have HAg := Lib.hid hn
  clear h hn hgo hb hnv hw hg ho hlow
  obtain ⟨k, p, d, v, f⟩ := o
  simp only [zeroRes] at *
  subst hk2
  subst ho'
  go_enter Tryz.func110, Tryz.ntmps110
  go_wp2
  go_region_with fail
  all_goals
    go_wp2_with (first
      | (go_at_call 141; refine (wrongV_any ⟨2, p, d, v, f⟩ (nb p) n _ NA.out).mono ?_; rw [HW.out]; rintro x w3 ⟨rfl, hb3⟩; have S3 := Lib.hid (S.out.on hb3); have qk : w3.cell? ⟨w.heap.size, 0, none⟩ = some (.int .i64 2) := cell_of_blk S3.out.box; have qp : w3.cell? ⟨w.heap.size, 1, none⟩ = some (.string (mkB p)) := cell_of_blk S3.out.box; have qd : w3.cell? ⟨w.heap.size, 2, none⟩ = some (.string (mkB d)) := cell_of_blk S3.out.box; have HN3 := Lib.hid ((hb3.block _ (lt_of_blk HNb.out)).trans HNb.out); have qn : w3.cell? ⟨nb p, 9, none⟩ = some (.slice na n.names.length ncap) := cell_of_blk HN3.out; have hlt3 : w.heap.size < w3.heap.size := lt_of_blk S3.out.box; have hlt3' : w.heap.size + 1 < w3.heap.size := lt_of_blk S3.out.res; have HB3 := Lib.hid hb3; clear hb3)
      | (go_at_call 100; refine (removeT_any p _ ((H.out.pu S3.out.pu).pu (pu_alloc _ _)) Ho.out.rise Ho.out.node (by omega) (HG.out.pu (S3.out.pu.tr (pu_alloc _ _))) HL.out).mono ?_; rintro x w5 ⟨rfl, hs5⟩; have B5 : Hid (w5.heap[w.heap.size + 1]? = some (.cells ((failRes 0).cells (.slice none 0 0)).toArray 59 (0, 0))) := Lib.hid (hs5.keep (lt_of_blk (S3.out.on (pu_alloc _ _)).res) (fun hb => by have := H.out.lt hb; omega) (S3.out.on (pu_alloc _ _)).res); have q5 := (fun o => cell_of_blk (o := o) (hs5.keep (by simp) (fun hb => by have := H.out.lt hb; omega) (al1 w3 _))); have HS5 := Lib.hid hs5; clear hs5)
      | (refine wpl_store_whole rfl 59 (.tmp 8) (.tmp 75) rfl (w.heap.size + 1) ((ResD.cells ⟨0, p, [], [], StatD.zero⟩ (.slice none 0 0)).toArray) rfl rfl _ _ B5.out (by rfl) sizeRes (res_all _ _ _ _) ?_; intro w9 hB9 hF9 hs9))
    refine bodyPost_ret (v := .agg ((ResD.cells ⟨0, p, [], [], StatD.zero⟩ (.slice none 0 0)).toArray)) (results_cell Tryz.results110 rfl hB9 _ Tryz.underlying59 rfl sizeRes) rfl ?_
    exact ⟨_, rfl, SlS.nil _ _, TreeStep.around H.out (S3.out.pu.tr (pu_alloc _ _)) HS5.out hF9 (by omega) (by simp; omega) B5.out (by decide)⟩


end Go.Proofs.YtmigbgfgnhkmnaaGreatDoor

/- tree.Tree: change, at a set. -/
namespace Go.Proofs.YtmigbgfgnhkmnaaGreatDoor
open Go.RowKit Go.Av

attribute [local go_sem ↓] Go.wp_at_zero Go.wp_at_succ
attribute [local go_sem] run_makeMap

variable {w w' : World} {tp mp : Nat} {nb : Str → Nat} {T : TreeD}

theorem lt_pu {b : Nat} (h : b < w.heap.size) (hp : Pu w w') : b < w'.heap.size := Nat.lt_of_lt_of_le h hp.size

/-- The node that is laid anew, behind all: what the step is. -/
theorem TreeStep.laid {w8 w10 w9 : World} {b t8 : Nat} {n : NodeD} {p : Str} {c : Array Value} (h : TreeIn w tp mp nb T) (hp : Pu w w8) (hb : w.heap.size ≤ b) (h8 : w.heap.size ≤ t8) (hne : t8 ≠ b) (h10 : TreeIn w10 tp mp (updN nb p b) { T with nodes := aput p n T.nodes }) (ht : w8.mapTurned w10 mp)
    (hc : w10.heap[t8]? = some (.cells c 59 (0, 0))) (hf : Fr (fun x => x = t8) w10 w9) : TreeStep w tp mp nb T { T with nodes := aput p n T.nodes } w9 := by
  have S2 : ∀ x, Foot tp mp (updN nb p b) { T with nodes := aput p n T.nodes } x → Foot tp mp nb T x ∨ x = b := by
    rintro x (hb | hb | ⟨y, hy, rfl⟩)
    · exact .inl (.inl hb)
    · exact .inl (.inr (.inl hb))
    · rcases mem_aput.1 hy with rfl | ⟨hy, hne⟩
      · right; simp [updN]
      · left; simp only [updN, if_neg hne]; exact .inr (.inr ⟨y, hy, rfl⟩)
  refine ⟨_, h10.fr hf (fun x hx e => ?_) (fun i c' fr' hi e => ?_), ?_, fun x hx => ?_⟩
  · subst e
    rcases S2 _ hx with h' | h'
    · have := h.lt h'; omega
    · exact hne h'
  · subst e; rw [hc] at hi; cases hi
  · refine ((Fr.of_below (M := Foot tp mp nb T) hp).trans (turned_fr ht) fun x _ e => by subst e; exact .inr (.inl rfl)).trans hf fun x hx e => by omega
  · rcases S2 x hx with h' | h'
    · exact .inl h'
    · exact .inr (by omega)

set_option maxHeartbeats 8000000 in
set_option maxRecDepth 100000 in
theorem change_set (o : OpD) (zxid : Int) (only : Bool) (w : World) (h : TreeIn w tp mp nb T) (ho : TreeOk T) (hgo : good o.path = true) (n : NodeD) (hn : aget o.path T.nodes = some n) (hw : wrongV o n = false) (hk2 : o.kind = 3) :
    Calls Tryz.prog 110 #[.pointer (some ⟨tp, 0, none⟩), o.val, .int .i64 zxid, .bool only] w (DoR w tp mp nb T (if only then T else { T with nodes := aput o.path (writeN n zxid o.data) T.nodes }, ⟨0, o.path, [], [], (writeN n zxid o.data).stat⟩)) := by
  have hgl := good_len hgo
  have S := Lib.hid ((start2 w tp mp nb T o).on (pu_drew _))
  have c1 := (h.pu S.out.pu).cell1
  have l1 := (h.pu S.out.pu).look_some o.path (by omega) hn
  have NA := Lib.hid ((h.pu S.out.pu).node _ (aget_mem hn))
  obtain ⟨nv, hb, hnv⟩ := NA.out
  obtain ⟨na, ncap, rfl⟩ := hnv.len
  have HNb := Lib.hid hb
  have HNv := Lib.hid hnv
  have H := Lib.hid h
  have HW := Lib.hid hw
  have hmem := aget_mem hn
  have HA := Lib.hid hmem
  have Ho := Lib.hid ho
  have hno := Lib.hid (ho.node _ hmem)
  have htl : T.nodes.length ≤ 1000 := by have := ho.many; have := ho.room1; omega
  clear h hn hgo hb hnv hw ho hmem
  obtain ⟨k, p, d, v, f⟩ := o
  simp only [zeroRes] at *
  subst hk2
  obtain ⟨m, hm⟩ : ∃ m, m = writeN n zxid d := ⟨_, rfl⟩
  rw [← hm]
  have HM := Lib.hid hm
  clear hm
  cases only
  all_goals
    go_enter Tryz.func110, Tryz.ntmps110
    go_wp2
    go_region_with fail
    all_goals
      go_wp2_with (first
        | (go_at_call 141; refine (wrongV_any ⟨3, p, d, v, f⟩ (nb p) n _ NA.out).mono ?_; rw [HW.out]; rintro x w3 ⟨rfl, hb3⟩; have S3 := Lib.hid (S.out.on hb3); have qk : w3.cell? ⟨w.heap.size, 0, none⟩ = some (.int .i64 3) := cell_of_blk S3.out.box; have qp : w3.cell? ⟨w.heap.size, 1, none⟩ = some (.string (mkB p)) := cell_of_blk S3.out.box; have HN3 := Lib.hid ((hb3.block _ (lt_of_blk HNb.out)).trans HNb.out); have qn := (fun o => cell_of_blk (o := o) HN3.out); have hltn : nb p < w3.heap.size := lt_of_blk HN3.out; have hlt3 : w.heap.size < w3.heap.size := lt_of_blk S3.out.box; have hlt3' : w.heap.size + 1 < w3.heap.size := lt_of_blk S3.out.res; have HV3 := Lib.hid (HNv.out.pu hb3); have HB3 := Lib.hid hb3; clear hb3; simp only [NodeD.cells] at qn)
        | (go_at_call 93; refine (copied_any n _ _ (HV3.out.pu (pu_alloc _ _)) hno.out.many).mono ?_; rintro x w5 ⟨nv2, rfl, hv5, hb5⟩; obtain ⟨na2, ncap2, rfl⟩ := hv5.len; have HV5 := Lib.hid hv5; have S5 := Lib.hid ((S3.out.on (pu_alloc _ _)).on hb5); have qd : w5.cell? ⟨w.heap.size, 2, none⟩ = some (.string (mkB d)) := cell_of_blk S5.out.box; have hlt5 : w.heap.size < w5.heap.size := lt_of_blk S5.out.box; have HR5 := Lib.hid ((hb5.block _ (by simp)).trans (al1 w3 _)); have HB5 := Lib.hid hb5; clear hb5 hv5))
      have N6 : NodeAt (w5.alloc (.cells (n.cells (.slice na2 n.names.length ncap2)).toArray 124)) w5.heap.size n := ⟨_, al1 _ _, HV5.out.pu (pu_alloc _ _)⟩
      refine (write_any w5.heap.size n zxid d _ N6 hno.out).mono ?_
      rw [← HM.out]
      rintro x w7 ⟨rfl, hn7, hf7⟩
      have P7 : Hid (Pu w5 w7) := Lib.hid (pu_of_fr (pu_alloc _ _) hf7 (Nat.le_refl _))
      have S7 := Lib.hid (S5.out.on P7.out)
      have R7 := Lib.hid ((P7.out.block _ (lt_of_blk HR5.out)).trans HR5.out)
      have N7 := Lib.hid hn7
      obtain ⟨nv7, hb7, hv7⟩ := hn7
      have q7 := fun o => cell_of_blk (o := o) hb7
      have hlt7 : w5.heap.size < w7.heap.size := lt_of_blk hb7
      have hle5 : w.heap.size ≤ w5.heap.size := S5.out.pu.size
      have hle3 : w.heap.size ≤ w3.heap.size := S3.out.pu.size
      have hlt35 : w3.heap.size < w5.heap.size := lt_of_blk HR5.out
      simp only [NodeD.cells] at q7
      clear hf7 hb7 hv7 N6
      have PP : Hid (∀ w8, Fr (fun x => x = w3.heap.size) w7 w8 → Pu w w8) := Lib.hid fun w8 h8 => pu_of_fr S7.out.pu h8 hle3
      have NN : Hid (∀ w8, Fr (fun x => x = w3.heap.size) w7 w8 → NodeAt w8 w5.heap.size m) := Lib.hid fun w8 h8 => N7.out.keep (h8.keep _ N7.out.lt (by omega)) fun i c fr hi => h8.keep i (lt_of_blk hi) fun e => by rw [e, R7.out] at hi; simp at hi
      have TT : Hid (∀ w8, Fr (fun x => x = w3.heap.size) w7 w8 → w8.heap[w.heap.size + 1]? = some (.cells ((failRes 0).cells (.slice none 0 0)).toArray 59 (0, 0))) := Lib.hid fun w8 h8 => (h8.keep _ (lt_of_blk S7.out.res) (by omega)).trans S7.out.res
      have BB : Hid (∀ w8, Fr (fun x => x = w3.heap.size) w7 w8 → w8.heap[w.heap.size]? = some (.cells #[.int .i64 3, .string (mkB p), .string (mkB d), .int .i64 v, .int .i64 f] 50 (0, 0))) := Lib.hid fun w8 h8 => (h8.keep _ (lt_of_blk S7.out.box) (by omega)).trans S7.out.box
      go_wp2_with (first
        | (refine wpl_store_stat rfl (.tmp 66) (.tmp 65) rfl w3.heap.size m.stat rfl rfl ⟨0, p, [], [], StatD.zero⟩ (.slice none 0 0) R7.out ?_; intro w8 hB8 hF8 hs8; have q8 := (fun o => cell_of_blk (o := o) hB8); simp only [ResD.cells, ResD.withStat] at q8; have HB8 := Lib.hid hB8; have HF8 := Lib.hid hF8; clear hB8 hF8)
        | (refine wpl_store_whole rfl 59 (.tmp 8) (.tmp 75) rfl (w.heap.size + 1) (ResD.cells ⟨0, p, [], [], m.stat⟩ (.slice none 0 0)).toArray rfl rfl _ _ (TT.out _ HF8.out) (by rfl) sizeRes (res_all _ _ _ _) ?_; intro w9 hB9 hF9 hs9))
      first
        | (refine bodyPost_ret (v := .agg (ResD.cells ⟨0, p, [], [], m.stat⟩ (.slice none 0 0)).toArray) (results_cell Tryz.results110 rfl hB9 _ Tryz.underlying59 rfl sizeRes) rfl ?_
           exact ⟨_, rfl, SlS.nil _ _, TreeStep.refl H.out (pu_of_fr (PP.out _ HF8.out) hF9 (by omega))⟩)
        | (have P8 := Lib.hid (PP.out _ HF8.out)
           have e1 := (H.out.pu P8.out).cell1
           have eb : w8.cell? ⟨w.heap.size, 1, none⟩ = some (.string (mkB p)) := cell_of_blk (BB.out _ HF8.out)
           obtain ⟨w10, hst, T10, ht10⟩ := (H.out.pu (P8.out.tr (pu_drew _))).put htl ((NN.out _ HF8.out).pu (pu_drew _)) (fun hb => by have := H.out.lt hb; omega) p (by omega)
           have HT10 := Lib.hid T10
           have HR10 := Lib.hid (mapTurned_cells ht10 (TT.out w8.drew (HF8.out.drew)))
           have q10 := fun o => cell_of_blk (o := o) (mapTurned_cells ht10 HB8.out)
           simp only [ResD.cells, ResD.withStat] at q10
           have Ht10 := Lib.hid ht10
           clear T10 ht10
           go_region_with fail
           all_goals
             go_wp2_with (refine wpl_store_whole rfl 59 (.tmp 8) (.tmp 75) rfl (w.heap.size + 1) (ResD.cells ⟨0, p, [], [], m.stat⟩ (.slice none 0 0)).toArray rfl rfl _ _ HR10.out (by rfl) sizeRes (res_all _ _ _ _) ?_; intro w9 hB9 hF9 hs9)
             refine bodyPost_ret (v := .agg (ResD.cells ⟨0, p, [], [], m.stat⟩ (.slice none 0 0)).toArray) (results_cell Tryz.results110 rfl hB9 _ Tryz.underlying59 rfl sizeRes) rfl ?_
             exact ⟨_, rfl, SlS.nil _ _, TreeStep.laid H.out (P8.out.tr (pu_drew _)) hle5 (by omega) (by omega) HT10.out Ht10.out HR10.out hF9⟩)


theorem change_any (o : OpD) (zxid : Int) (only : Bool) (w : World) (h : TreeIn w tp mp nb T) (ho : TreeOk T) (hgo : good o.path = true) (hg : Gl w) (hlow : ∀ b, Foot tp mp nb T b → gB ≤ b) :
    Calls Tryz.prog 110 #[.pointer (some ⟨tp, 0, none⟩), o.val, .int .i64 zxid, .bool only] w (DoR w tp mp nb T (changeT T o zxid only)) := by
  unfold changeT
  split
  · rename_i hn; exact change_none o zxid only w h hgo hn
  · rename_i n hn
    split
    · rename_i hw; exact change_ver o zxid only w h hgo n hn hw
    · rename_i hw
      have hw' : wrongV o n = false := by simpa using hw
      split
      · rename_i hk; exact change_kids o zxid only w h hgo n hn hw' hk.1 hk.2
      · rename_i hk
        split
        · rename_i hk2
          have hl : n.names.length = 0 := by
            rcases Nat.eq_zero_or_pos n.names.length with h | h
            · exact h
            · exact absurd ⟨hk2, h⟩ hk
          cases only with
          | true => exact change_try o zxid true w h ho hgo n hn hg hlow hw' hk2 hl rfl
          | false => exact change_del o zxid false w h ho hgo n hn hg hlow hw' hk2 hl rfl
        · rename_i hk2
          split
          · rename_i hk3; exact change_set o zxid only w h ho hgo n hn hw' hk3
          · rename_i hk3; exact change_check o zxid only w h hgo n hn hw' hk2 hk3

end Go.Proofs.YtmigbgfgnhkmnaaGreatDoor

/- tree.Tree: read, do, Do, Try. -/
namespace Go.Proofs.YtmigbgfgnhkmnaaGreatDoor
open Go.RowKit Go.Av

attribute [local go_sem ↓] Go.wp_at_zero Go.wp_at_succ
attribute [local go_sem] run_makeMap

variable {w w' : World} {tp mp : Nat} {nb : Str → Nat} {T : TreeD}

/-- A reading call's answer. -/
def ReadR (w : World) (r : ResD) (e : Ending) (w' : World) : Prop := ∃ nv, e = .returned (.agg (r.cells nv).toArray) ∧ SlS 9 w' nv r.names ∧ Pu w w'

set_option maxHeartbeats 4000000 in
set_option maxRecDepth 100000 in
theorem read_none (o : OpD) (w : World) (h : TreeIn w tp mp nb T) (hgo : good o.path = true) (hn : aget o.path T.nodes = none) :
    Calls Tryz.prog 111 #[.pointer (some ⟨tp, 0, none⟩), o.val] w (ReadR w (failRes 4)) := by
  have hgl := good_len hgo
  have S := Lib.hid ((start2 w tp mp nb T o).on (pu_drew _))
  have c1 := (h.pu S.out.pu).cell1
  have l1 := (h.pu S.out.pu).look_none o.path (by omega) hn
  have H := Lib.hid h
  clear h hn hgo
  obtain ⟨k, p, d, v, f⟩ := o
  simp only [zeroRes] at *
  go_enter Tryz.func111, Tryz.ntmps111
  go_wp2
  go_region_with fail
  all_goals
    go_wp2_with (first
      | (go_at_call 108; refine (failT_any 4 _).mono ?_; rintro x w3 ⟨rfl, hb3⟩; have HB3 := Lib.hid hb3; clear hb3)
      | (refine wpl_store_whole rfl 59 (.tmp 4) (.tmp 16) rfl (w.heap.size + 1) ((failRes 4).cells (.slice none 0 0)).toArray rfl rfl _ _ (S.out.on HB3.out).res (by rfl) sizeRes (res_all _ _ _ _) ?_; intro w4 hB4 hF4 hs4))
    refine bodyPost_ret (v := .agg ((failRes 4).cells (.slice none 0 0)).toArray) (results_cell Tryz.results111 rfl hB4 _ Tryz.underlying59 rfl sizeRes) rfl ?_
    exact ⟨_, rfl, SlS.nil _ _, pu_of_fr (S.out.on HB3.out).pu hF4 (by omega)⟩

set_option maxHeartbeats 4000000 in
set_option maxRecDepth 100000 in
theorem read_some (o : OpD) (w : World) (h : TreeIn w tp mp nb T) (ho : TreeOk T) (hgo : good o.path = true) (n : NodeD) (hn : aget o.path T.nodes = some n) (h7 : o.kind ≠ 7) :
    Calls Tryz.prog 111 #[.pointer (some ⟨tp, 0, none⟩), o.val] w (ReadR w ⟨0, o.path, if o.kind = 5 then n.data else [], if o.kind = 7 then n.names else [], n.stat⟩) := by
  have hgl := good_len hgo
  have S := Lib.hid ((start2 w tp mp nb T o).on (pu_drew _))
  have c1 := (h.pu S.out.pu).cell1
  have l1 := (h.pu S.out.pu).look_some o.path (by omega) hn
  have NA := Lib.hid ((h.pu S.out.pu).node _ (aget_mem hn))
  obtain ⟨nv, hb, hnv⟩ := NA.out
  obtain ⟨na, ncap, rfl⟩ := hnv.len
  have hlw := (h.node _ (aget_mem hn)).lt
  have QN := Lib.hid (fun o => cell_of_blk (o := o) ((S.out.pu.block _ hlw).symm.trans hb))
  have HLN := Lib.hid hlw
  have S2 := Lib.hid (S.out.on (pu_drew _))
  clear hlw
  have HNb := Lib.hid hb
  have HNv := Lib.hid hnv
  have H := Lib.hid h
  have hmem := aget_mem hn
  have hno := Lib.hid (ho.node _ hmem)
  clear h hn hgo hb hnv ho
  obtain ⟨k, p, d, v, f⟩ := o
  simp only [zeroRes, NodeD.cells] at *
  obtain ⟨R, hR⟩ : ∃ R : ResD, R = ⟨0, p, if k = 5 then n.data else [], if k = 7 then n.names else [], n.stat⟩ := ⟨_, rfl⟩
  rw [← hR]
  have HR := Lib.hid hR
  clear hR
  go_enter Tryz.func111, Tryz.ntmps111
  go_wp2
  go_region_with fail
  all_goals
    have qn := QN.out
    have hln := HLN.out
    have hl1 : nb p < w.heap.size + 1 := by omega
    have hl2 : nb p < w.heap.size + 1 + 1 := by omega
    have hl3 : nb p < w.heap.size + 2 := by omega
    go_wp2
    go_region_with fail
    all_goals
      by_cases h5 : k = 5
      · subst h5
        have HR' : R = ⟨0, p, n.data, [], n.stat⟩ := HR.out.trans (by simp)
        subst HR'
        go_wp2
        refine bodyPost_ret (v := .agg (ResD.cells ⟨0, p, n.data, [], n.stat⟩ (.slice none 0 0)).toArray) (results_cell (fr := (0, 0)) (b := w.heap.size + 1) (e := 59) Tryz.results111 rfl (al3b w _ _ _) _ Tryz.underlying59 rfl sizeRes) rfl ?_
        exact ⟨_, rfl, SlS.nil _ _, ((((pu_alloc _ _).tr (pu_alloc _ _)).tr (pu_alloc _ _)).tr (pu_drew _)).tr (pu_drew _)⟩
      · have e5 : (k == 5) = false := by simpa using h5
        have e7 : (k == 7) = false := by simpa using h7
        have HR' : R = ⟨0, p, [], [], n.stat⟩ := HR.out.trans (by simp [h5, h7])
        subst HR'
        go_wp2
        refine bodyPost_ret (v := .agg (ResD.cells ⟨0, p, [], [], n.stat⟩ (.slice none 0 0)).toArray) (results_cell (fr := (0, 0)) (b := w.heap.size + 1) (e := 59) Tryz.results111 rfl (al3b w _ _ _) _ Tryz.underlying59 rfl sizeRes) rfl ?_
        exact ⟨_, rfl, SlS.nil _ _, ((((pu_alloc _ _).tr (pu_alloc _ _)).tr (pu_alloc _ _)).tr (pu_drew _)).tr (pu_drew _)⟩


end Go.Proofs.YtmigbgfgnhkmnaaGreatDoor

/- tree.Tree: read, the children. -/
namespace Go.Proofs.YtmigbgfgnhkmnaaGreatDoor
open Go.RowKit Go.Av

attribute [local go_sem ↓] Go.wp_at_zero Go.wp_at_succ
attribute [local go_sem] run_makeMap

variable {w w' : World} {tp mp : Nat} {nb : Str → Nat} {T : TreeD}

set_option maxHeartbeats 4000000 in
set_option maxRecDepth 100000 in
theorem read_kids (o : OpD) (w : World) (h : TreeIn w tp mp nb T) (ho : TreeOk T) (hgo : good o.path = true) (n : NodeD) (hn : aget o.path T.nodes = some n) (h7 : o.kind = 7) :
    Calls Tryz.prog 111 #[.pointer (some ⟨tp, 0, none⟩), o.val] w (ReadR w ⟨0, o.path, if o.kind = 5 then n.data else [], if o.kind = 7 then n.names else [], n.stat⟩) := by
  have hgl := good_len hgo
  have S := Lib.hid ((start2 w tp mp nb T o).on (pu_drew _))
  have c1 := (h.pu S.out.pu).cell1
  have l1 := (h.pu S.out.pu).look_some o.path (by omega) hn
  have NA := Lib.hid ((h.pu S.out.pu).node _ (aget_mem hn))
  obtain ⟨nv, hb, hnv⟩ := NA.out
  obtain ⟨na, ncap, rfl⟩ := hnv.len
  have hlw := (h.node _ (aget_mem hn)).lt
  have QN := Lib.hid (fun o => cell_of_blk (o := o) ((S.out.pu.block _ hlw).symm.trans hb))
  have HLN := Lib.hid hlw
  have S2 := Lib.hid (S.out.on (pu_drew _))
  clear hlw
  have HNb := Lib.hid hb
  have HNv := Lib.hid hnv
  have H := Lib.hid h
  have hmem := aget_mem hn
  have hno := Lib.hid (ho.node _ hmem)
  clear h hn hgo hb hnv ho
  obtain ⟨k, p, d, v, f⟩ := o
  simp only [zeroRes, NodeD.cells] at *
  subst h7
  obtain ⟨R, hR⟩ : ∃ R : ResD, R = ⟨0, p, if (7 : Int) = 5 then n.data else [], if (7 : Int) = 7 then n.names else [], n.stat⟩ := ⟨_, rfl⟩
  rw [← hR]
  have HR := Lib.hid hR
  clear hR
  go_enter Tryz.func111, Tryz.ntmps111
  go_wp2
  go_region_with fail
  all_goals
    have qn := QN.out
    have hln := HLN.out
    have hl1 : nb p < w.heap.size + 1 := by omega
    have hl2 : nb p < w.heap.size + 1 + 1 := by omega
    have hl3 : nb p < w.heap.size + 2 := by omega
    go_wp2
    go_region_with fail
    all_goals
      have HR' : R = ⟨0, p, [], n.names, n.stat⟩ := HR.out.trans (by simp)
      subst HR'
      have SW := Lib.hid (Lib.hid ((H.out.node _ hmem))).out
      obtain ⟨nv0, hw0, hs0⟩ := SW.out
      have e0 : nv0 = .slice na n.names.length ncap := by
        have := qn 9
        rw [cell_of_blk hw0] at this
        simpa [NodeD.cells] using this
      subst e0
      have HS0 := Lib.hid hs0
      have PW := Lib.hid (((((pu_alloc w (.cells #[.int .i64 7, .string (mkB p), .string (mkB d), .int .i64 v, .int .i64 f] 50)).tr (pu_alloc _ (.cells zeroRes 59))).tr (pu_alloc _ (.cells (ResD.cells ⟨0, p, [], [], n.stat⟩ (.slice none 0 0)).toArray 59))).tr (pu_drew _)).tr (pu_drew _))
      clear hw0 hs0 hmem
      go_wp2_with fail
      refine (clone_any n.names _ _ (HS0.out.pu PW.out) (by have := hno.out.many; omega)).mono ?_
      rintro e w7 ⟨v7, rfl, hv7, hb7⟩
      have hs7 := SlS.of_own hv7
      obtain ⟨a7, cap7, rfl⟩ := hs7.len
      have R7 : w7.heap[w.heap.size + 1 + 1]? = _ := (hb7.block (w.heap.size + 1 + 1) (by simp)).trans (al3c w _ _ _)
      have T7 : Hid (w7.heap[w.heap.size + 1]? = _) := Lib.hid ((hb7.block (w.heap.size + 1) (by simp)).trans (al3b w _ _ _))
      have d3 := cell_of_blk (o := 3) R7
      have f3 := frozen_of_blk (o := 3) R7
      have q7 := fun o => cell_of_blk (o := o) R7
      have HR7 := Lib.hid R7
      have HS7 := Lib.hid hs7
      have P7 := Lib.hid (PW.out.tr hb7)
      clear hv7 hb7 hs7 R7
      go_wp2_with (refine wpl_store_whole rfl 59 (.tmp 4) (.tmp 41) rfl (w.heap.size + 1) (ResD.cells ⟨0, p, [], n.names, n.stat⟩ (.slice a7 n.names.length cap7)).toArray rfl rfl _ _ ((other_set (b := w.heap.size + 1 + 1) (i := w.heap.size + 1) (by omega) 3 _).trans T7.out) (by rfl) sizeRes (res_all _ _ _ _) ?_; intro w9 hB9 hF9 hs9)
      refine bodyPost_ret (v := .agg (ResD.cells ⟨0, p, [], n.names, n.stat⟩ (.slice a7 n.names.length cap7)).toArray) (results_cell Tryz.results111 rfl hB9 _ Tryz.underlying59 rfl sizeRes) rfl ?_
      exact ⟨_, rfl, (HS7.out.fr HR7.out (by decide) (fr_set (Fr.refl _ w7) 3 _)).fr ((other_set (b := w.heap.size + 1 + 1) (i := w.heap.size + 1) (by omega) 3 _).trans T7.out) (by decide) hF9, pu_of_fr (pu_set P7.out (by omega) _ _) hF9 (by omega)⟩

end Go.Proofs.YtmigbgfgnhkmnaaGreatDoor

/- tree.Tree: do, Do, Try. -/
namespace Go.Proofs.YtmigbgfgnhkmnaaGreatDoor
open Go.RowKit Go.Av

attribute [local go_sem ↓] Go.wp_at_zero Go.wp_at_succ
attribute [local go_sem] run_makeMap

variable {w w' : World} {tp mp : Nat} {nb : Str → Nat} {T : TreeD}

theorem read_any (o : OpD) (w : World) (h : TreeIn w tp mp nb T) (ho : TreeOk T) (hgo : good o.path = true) :
    Calls Tryz.prog 111 #[.pointer (some ⟨tp, 0, none⟩), o.val] w (DoR w tp mp nb T (T, readT T o)) := by
  have key : ∀ r e w', ReadR w r e w' → DoR w tp mp nb T (T, r) e w' := by
    rintro r e w' ⟨nv, h1, h2, h3⟩
    exact ⟨nv, h1, h2, TreeStep.refl h h3⟩
  unfold readT
  split
  · rename_i hn; exact (read_none o w h hgo hn).mono (key _)
  · rename_i n hn
    by_cases h7 : o.kind = 7
    · have := (read_kids o w h ho hgo n hn h7).mono (key _)
      simpa [h7] using this
    · exact (read_some o w h ho hgo n hn h7).mono (key _)

/-- The result of a call stored as one's own. -/
theorem DoR.stored {W W5 w6 : World} {a : TreeD × ResD} {nv : Value} {b : Nat} (h : TreeIn w tp mp nb T) (hp : Pu w W) (hnv : SlS 9 W5 nv a.2.names) (hs : TreeStep W tp mp nb T a.1 W5) (hb : W.heap[b]? = some (.cells ((failRes 0).cells (.slice none 0 0)).toArray 59 (0, 0))) (hb1 : w.heap.size ≤ b)
    (hf : Fr (fun x => x = b) W5 w6) {e : Ending} (he : e = .returned (.agg (a.2.cells nv).toArray)) : DoR w tp mp nb T a e w6 := by
  have hlt : b < W.heap.size := lt_of_blk hb
  have h5 : W5.heap[b]? = _ := hs.keep hlt (fun hx => by have := h.lt hx; omega) hb
  exact ⟨nv, he, hnv.fr h5 (by decide) hf, TreeStep.around h hp hs hf hb1 hlt h5 (by decide)⟩

set_option maxHeartbeats 4000000 in
set_option maxRecDepth 100000 in
theorem do_any (o : OpD) (sess zxid : Int) (only : Bool) (w : World) (h : TreeIn w tp mp nb T) (ho : TreeOk T) (hp : o.path.length ≤ 1000000) (hg : Gl w) (hlow : ∀ b, Foot tp mp nb T b → gB ≤ b) :
    Calls Tryz.prog 65 #[.pointer (some ⟨tp, 0, none⟩), o.val, .int .i64 sess, .int .i64 zxid, .bool only] w (DoR w tp mp nb T (doT T o sess zxid only)) := by
  have S := Lib.hid (start2 w tp mp nb T o)
  have G := Lib.hid (hg.pu S.out.pu)
  have H := Lib.hid h
  have Ho := Lib.hid ho
  have HL := Lib.hid hlow
  clear h ho hg hlow
  by_cases hb : opGood o = 0
  · by_cases ha : sess < 1 ∨ zxid < 0
    · have e : doT T o sess zxid only = (T, failRes 1) := by simp [doT, hb, ha]
      rw [e]
      have HB := Lib.hid hb
      clear hb e
      obtain ⟨k, p, d, v, f⟩ := o
      simp only [zeroRes] at *
      go_enter Tryz.func65, Tryz.ntmps65
      go_wp2_with (first
        | (go_at_call 61; refine (opGood_any ⟨k, p, d, v, f⟩ _ hp G.out).mono ?_; rw [HB.out]; rintro x w3 ⟨rfl, hb3⟩; have S3 := Lib.hid (S.out.on hb3); have HB3 := Lib.hid hb3; clear hb3)
        | (go_at_call 108; refine (failT_any 1 _).mono ?_; rintro x w4 ⟨rfl, hb4⟩; have HB4 := Lib.hid hb4; clear hb4)
        | (refine wpl_store_whole rfl 59 (.tmp 10) (.tmp 24) rfl (w.heap.size + 1) ((failRes 1).cells (.slice none 0 0)).toArray rfl rfl _ _ (S3.out.on HB4.out).res (by rfl) sizeRes (res_all _ _ _ _) ?_; intro w9 hB9 hF9 hs9))
      all_goals first
        | (refine bodyPost_ret (v := .agg ((failRes 1).cells (.slice none 0 0)).toArray) (results_cell Tryz.results65 rfl hB9 _ Tryz.underlying59 rfl sizeRes) rfl ?_
           exact DoR.fails H.out rfl (pu_of_fr (S3.out.on HB4.out).pu hF9 (by omega)))
        | omega
    · have hgo := opGood_good hb
      have hs1 : ¬ sess < 1 := fun h => ha (.inl h)
      have hz1 : ¬ zxid < 0 := fun h => ha (.inr h)
      have HB := Lib.hid hb
      have Hgo := Lib.hid hgo
      clear ha hgo
      obtain ⟨k, p, d, v, f⟩ := o
      simp only [zeroRes] at *
      by_cases k1 : k = 1
      · subst k1
        have e : doT T ⟨1, p, d, v, f⟩ sess zxid only = createT T ⟨1, p, d, v, f⟩ sess zxid only := by simp [doT, hb, hs1, hz1]
        rw [e]; clear e hb
        go_enter Tryz.func65, Tryz.ntmps65
        go_wp2_with (first
          | (go_at_call 61; refine (opGood_any ⟨1, p, d, v, f⟩ _ hp G.out).mono ?_; rw [HB.out]; rintro x w3 ⟨rfl, hb3⟩; have S3 := Lib.hid (S.out.on hb3); have qk : w3.cell? ⟨w.heap.size, 0, none⟩ = some (.int .i64 1) := cell_of_blk S3.out.box; have QB := (fun o => cell_of_blk (o := o) S3.out.box); have G3 := Lib.hid (G.out.pu hb3); have HB3 := Lib.hid hb3; clear hb3)
          | (go_at_call 109; refine (create_any ⟨1, p, d, v, f⟩ sess zxid only _ (H.out.pu S3.out.pu) Ho.out Hgo.out G3.out HL.out).mono ?_; rintro x w5 ⟨nv, rfl, hnv, hs5⟩; obtain ⟨a5, c5, rfl⟩ := hnv.len; have B5 := Lib.hid (hs5.keep (lt_of_blk S3.out.res) (fun hx => by have := H.out.lt hx; omega) S3.out.res); have HV5 := Lib.hid hnv; have HS5 := Lib.hid hs5; clear hnv hs5)
          | (refine wpl_store_whole rfl 59 (.tmp 10) (.tmp 34) rfl (w.heap.size + 1) ((createT T ⟨1, p, d, v, f⟩ sess zxid only).2.cells (.slice a5 (createT T ⟨1, p, d, v, f⟩ sess zxid only).2.names.length c5)).toArray rfl rfl _ _ B5.out (by rfl) sizeRes (res_all _ _ _ _) ?_; intro w9 hB9 hF9 hs9))
        all_goals first
          | (refine bodyPost_ret (v := .agg ((createT T ⟨1, p, d, v, f⟩ sess zxid only).2.cells (.slice a5 (createT T ⟨1, p, d, v, f⟩ sess zxid only).2.names.length c5)).toArray) (results_cell Tryz.results65 rfl hB9 _ Tryz.underlying59 rfl sizeRes) rfl ?_
             exact DoR.stored H.out S3.out.pu HV5.out HS5.out S3.out.res (by omega) hF9 rfl)
          | omega

      · by_cases k2 : k = 2 ∨ k = 3 ∨ k = 4
        · rcases k2 with rfl | rfl | rfl
          · have e : doT T ⟨2, p, d, v, f⟩ sess zxid only = changeT T ⟨2, p, d, v, f⟩ zxid only := by simp [doT, hb, hs1, hz1]
            rw [e]; clear e hb
            go_enter Tryz.func65, Tryz.ntmps65
            go_wp2_with (first
              | (go_at_call 61; refine (opGood_any ⟨2, p, d, v, f⟩ _ hp G.out).mono ?_; rw [HB.out]; rintro x w3 ⟨rfl, hb3⟩; have S3 := Lib.hid (S.out.on hb3); have qk : w3.cell? ⟨w.heap.size, 0, none⟩ = some (.int .i64 2) := cell_of_blk S3.out.box; have QB := (fun o => cell_of_blk (o := o) S3.out.box); have G3 := Lib.hid (G.out.pu hb3); have HB3 := Lib.hid hb3; clear hb3)
              | (go_at_call 110; refine (change_any ⟨2, p, d, v, f⟩ zxid only _ (H.out.pu S3.out.pu) Ho.out Hgo.out G3.out HL.out).mono ?_; rintro x w5 ⟨nv, rfl, hnv, hs5⟩; obtain ⟨a5, c5, rfl⟩ := hnv.len; have B5 := Lib.hid (hs5.keep (lt_of_blk S3.out.res) (fun hx => by have := H.out.lt hx; omega) S3.out.res); have HV5 := Lib.hid hnv; have HS5 := Lib.hid hs5; clear hnv hs5)
              | (refine wpl_store_whole rfl 59 (.tmp 10) (.tmp 43) rfl (w.heap.size + 1) ((changeT T ⟨2, p, d, v, f⟩ zxid only).2.cells (.slice a5 (changeT T ⟨2, p, d, v, f⟩ zxid only).2.names.length c5)).toArray rfl rfl _ _ B5.out (by rfl) sizeRes (res_all _ _ _ _) ?_; intro w9 hB9 hF9 hs9))
            all_goals first
              | (refine bodyPost_ret (v := .agg ((changeT T ⟨2, p, d, v, f⟩ zxid only).2.cells (.slice a5 (changeT T ⟨2, p, d, v, f⟩ zxid only).2.names.length c5)).toArray) (results_cell Tryz.results65 rfl hB9 _ Tryz.underlying59 rfl sizeRes) rfl ?_
                 exact DoR.stored H.out S3.out.pu HV5.out HS5.out S3.out.res (by omega) hF9 rfl)
              | omega

          · have e : doT T ⟨3, p, d, v, f⟩ sess zxid only = changeT T ⟨3, p, d, v, f⟩ zxid only := by simp [doT, hb, hs1, hz1]
            rw [e]; clear e hb
            go_enter Tryz.func65, Tryz.ntmps65
            go_wp2_with (first
              | (go_at_call 61; refine (opGood_any ⟨3, p, d, v, f⟩ _ hp G.out).mono ?_; rw [HB.out]; rintro x w3 ⟨rfl, hb3⟩; have S3 := Lib.hid (S.out.on hb3); have qk : w3.cell? ⟨w.heap.size, 0, none⟩ = some (.int .i64 3) := cell_of_blk S3.out.box; have QB := (fun o => cell_of_blk (o := o) S3.out.box); have G3 := Lib.hid (G.out.pu hb3); have HB3 := Lib.hid hb3; clear hb3)
              | (go_at_call 110; refine (change_any ⟨3, p, d, v, f⟩ zxid only _ (H.out.pu S3.out.pu) Ho.out Hgo.out G3.out HL.out).mono ?_; rintro x w5 ⟨nv, rfl, hnv, hs5⟩; obtain ⟨a5, c5, rfl⟩ := hnv.len; have B5 := Lib.hid (hs5.keep (lt_of_blk S3.out.res) (fun hx => by have := H.out.lt hx; omega) S3.out.res); have HV5 := Lib.hid hnv; have HS5 := Lib.hid hs5; clear hnv hs5)
              | (refine wpl_store_whole rfl 59 (.tmp 10) (.tmp 43) rfl (w.heap.size + 1) ((changeT T ⟨3, p, d, v, f⟩ zxid only).2.cells (.slice a5 (changeT T ⟨3, p, d, v, f⟩ zxid only).2.names.length c5)).toArray rfl rfl _ _ B5.out (by rfl) sizeRes (res_all _ _ _ _) ?_; intro w9 hB9 hF9 hs9))
            all_goals first
              | (refine bodyPost_ret (v := .agg ((changeT T ⟨3, p, d, v, f⟩ zxid only).2.cells (.slice a5 (changeT T ⟨3, p, d, v, f⟩ zxid only).2.names.length c5)).toArray) (results_cell Tryz.results65 rfl hB9 _ Tryz.underlying59 rfl sizeRes) rfl ?_
                 exact DoR.stored H.out S3.out.pu HV5.out HS5.out S3.out.res (by omega) hF9 rfl)
              | omega

          · have e : doT T ⟨4, p, d, v, f⟩ sess zxid only = changeT T ⟨4, p, d, v, f⟩ zxid only := by simp [doT, hb, hs1, hz1]
            rw [e]; clear e hb
            go_enter Tryz.func65, Tryz.ntmps65
            go_wp2_with (first
              | (go_at_call 61; refine (opGood_any ⟨4, p, d, v, f⟩ _ hp G.out).mono ?_; rw [HB.out]; rintro x w3 ⟨rfl, hb3⟩; have S3 := Lib.hid (S.out.on hb3); have qk : w3.cell? ⟨w.heap.size, 0, none⟩ = some (.int .i64 4) := cell_of_blk S3.out.box; have QB := (fun o => cell_of_blk (o := o) S3.out.box); have G3 := Lib.hid (G.out.pu hb3); have HB3 := Lib.hid hb3; clear hb3)
              | (go_at_call 110; refine (change_any ⟨4, p, d, v, f⟩ zxid only _ (H.out.pu S3.out.pu) Ho.out Hgo.out G3.out HL.out).mono ?_; rintro x w5 ⟨nv, rfl, hnv, hs5⟩; obtain ⟨a5, c5, rfl⟩ := hnv.len; have B5 := Lib.hid (hs5.keep (lt_of_blk S3.out.res) (fun hx => by have := H.out.lt hx; omega) S3.out.res); have HV5 := Lib.hid hnv; have HS5 := Lib.hid hs5; clear hnv hs5)
              | (refine wpl_store_whole rfl 59 (.tmp 10) (.tmp 43) rfl (w.heap.size + 1) ((changeT T ⟨4, p, d, v, f⟩ zxid only).2.cells (.slice a5 (changeT T ⟨4, p, d, v, f⟩ zxid only).2.names.length c5)).toArray rfl rfl _ _ B5.out (by rfl) sizeRes (res_all _ _ _ _) ?_; intro w9 hB9 hF9 hs9))
            all_goals first
              | (refine bodyPost_ret (v := .agg ((changeT T ⟨4, p, d, v, f⟩ zxid only).2.cells (.slice a5 (changeT T ⟨4, p, d, v, f⟩ zxid only).2.names.length c5)).toArray) (results_cell Tryz.results65 rfl hB9 _ Tryz.underlying59 rfl sizeRes) rfl ?_
                 exact DoR.stored H.out S3.out.pu HV5.out HS5.out S3.out.res (by omega) hF9 rfl)
              | omega

        · have e : doT T ⟨k, p, d, v, f⟩ sess zxid only = (T, readT T ⟨k, p, d, v, f⟩) := by simp [doT, hb, hs1, hz1, k1, k2]
          have e1 : (k == 1) = false := by simpa using k1
          have e2 : (k == 2) = false := by simp; omega
          have e3 : (k == 3) = false := by simp; omega
          have e4 : (k == 4) = false := by simp; omega
          rw [e]; clear e hb
          go_enter Tryz.func65, Tryz.ntmps65
          go_wp2_with (first
            | (go_at_call 61; refine (opGood_any ⟨k, p, d, v, f⟩ _ hp G.out).mono ?_; rw [HB.out]; rintro x w3 ⟨rfl, hb3⟩; have S3 := Lib.hid (S.out.on hb3); have qk : w3.cell? ⟨w.heap.size, 0, none⟩ = some (.int .i64 k) := cell_of_blk S3.out.box; have QB := (fun o => cell_of_blk (o := o) S3.out.box); have G3 := Lib.hid (G.out.pu hb3); have HB3 := Lib.hid hb3; clear hb3)
            | (go_at_call 111; refine (read_any ⟨k, p, d, v, f⟩ _ (H.out.pu S3.out.pu) Ho.out Hgo.out).mono ?_; rintro x w5 ⟨nv, rfl, hnv, hs5⟩; obtain ⟨a5, c5, rfl⟩ := hnv.len; have B5 := Lib.hid (hs5.keep (lt_of_blk S3.out.res) (fun hx => by have := H.out.lt hx; omega) S3.out.res); have HV5 := Lib.hid hnv; have HS5 := Lib.hid hs5; clear hnv hs5)
            | (refine wpl_store_whole rfl 59 (.tmp 10) (.tmp 46) rfl (w.heap.size + 1) ((T, readT T ⟨k, p, d, v, f⟩).2.cells (.slice a5 (T, readT T ⟨k, p, d, v, f⟩).2.names.length c5)).toArray rfl rfl _ _ B5.out (by rfl) sizeRes (res_all _ _ _ _) ?_; intro w9 hB9 hF9 hs9))
          all_goals first
            | (refine bodyPost_ret (v := .agg ((T, readT T ⟨k, p, d, v, f⟩).2.cells (.slice a5 (T, readT T ⟨k, p, d, v, f⟩).2.names.length c5)).toArray) (results_cell Tryz.results65 rfl hB9 _ Tryz.underlying59 rfl sizeRes) rfl ?_
               exact DoR.stored H.out S3.out.pu HV5.out HS5.out S3.out.res (by omega) hF9 rfl)
            | omega

  · have e : doT T o sess zxid only = (T, failRes (opGood o)) := by simp [doT, hb]
    rw [e]
    obtain ⟨g, hg'⟩ : ∃ g, g = opGood o := ⟨_, rfl⟩
    rw [← hg'] at hb ⊢
    have HB := Lib.hid hg'
    clear e hg'
    obtain ⟨k, p, d, v, f⟩ := o
    simp only [zeroRes] at *
    go_enter Tryz.func65, Tryz.ntmps65
    go_wp2_with (first
      | (go_at_call 61; refine (opGood_any ⟨k, p, d, v, f⟩ _ hp G.out).mono ?_; rw [← HB.out]; rintro x w3 ⟨rfl, hb3⟩; have S3 := Lib.hid (S.out.on hb3); have HB3 := Lib.hid hb3; clear hb3)
      | (go_at_call 108; refine (failT_any g _).mono ?_; rintro x w4 ⟨rfl, hb4⟩; have HB4 := Lib.hid hb4; clear hb4)
      | (refine wpl_store_whole rfl 59 (.tmp 10) (.tmp 17) rfl (w.heap.size + 1) ((failRes g).cells (.slice none 0 0)).toArray rfl rfl _ _ (S3.out.on HB4.out).res (by rfl) sizeRes (res_all _ _ _ _) ?_; intro w9 hB9 hF9 hs9))
    refine bodyPost_ret (v := .agg ((failRes g).cells (.slice none 0 0)).toArray) (results_cell Tryz.results65 rfl hB9 _ Tryz.underlying59 rfl sizeRes) rfl ?_
    exact DoR.fails H.out rfl (pu_of_fr (S3.out.on HB4.out).pu hF9 (by omega))


set_option maxHeartbeats 4000000 in
set_option maxRecDepth 100000 in
theorem doT_any (o : OpD) (sess zxid : Int) (w : World) (h : TreeIn w tp mp nb T) (ho : TreeOk T) (hp : o.path.length ≤ 1000000) (hg : Gl w) (hlow : ∀ b, Foot tp mp nb T b → gB ≤ b) :
    Calls Tryz.prog 92 #[.pointer (some ⟨tp, 0, none⟩), o.val, .int .i64 sess, .int .i64 zxid] w (DoR w tp mp nb T (doT T o sess zxid false)) := by
  have S := Lib.hid (start2 w tp mp nb T o)
  have G := Lib.hid (hg.pu S.out.pu)
  have H := Lib.hid h
  have Ho := Lib.hid ho
  have HL := Lib.hid hlow
  clear h ho hg hlow
  obtain ⟨k, p, d, v, f⟩ := o
  simp only [zeroRes] at *
  go_enter Tryz.func92, Tryz.ntmps92
  go_wp2_with (first
    | (go_at_call 65; refine (do_any ⟨k, p, d, v, f⟩ sess zxid false _ (H.out.pu S.out.pu) Ho.out hp G.out HL.out).mono ?_; rintro x w5 ⟨nv, rfl, hnv, hs5⟩; obtain ⟨a5, c5, rfl⟩ := hnv.len; have B5 := Lib.hid (hs5.keep (lt_of_blk S.out.res) (fun hx => by have := H.out.lt hx; omega) S.out.res); have HV5 := Lib.hid hnv; have HS5 := Lib.hid hs5; clear hnv hs5)
    | (refine wpl_store_whole rfl 59 (.tmp 8) (.tmp 13) rfl (w.heap.size + 1) ((doT T ⟨k, p, d, v, f⟩ sess zxid false).2.cells (.slice a5 (doT T ⟨k, p, d, v, f⟩ sess zxid false).2.names.length c5)).toArray rfl rfl _ _ B5.out (by rfl) sizeRes (res_all _ _ _ _) ?_; intro w9 hB9 hF9 hs9))
  refine bodyPost_ret (v := .agg ((doT T ⟨k, p, d, v, f⟩ sess zxid false).2.cells (.slice a5 (doT T ⟨k, p, d, v, f⟩ sess zxid false).2.names.length c5)).toArray) (results_cell Tryz.results92 rfl hB9 _ Tryz.underlying59 rfl sizeRes) rfl ?_
  exact DoR.stored H.out S.out.pu HV5.out HS5.out S.out.res (by omega) hF9 rfl

set_option maxHeartbeats 4000000 in
set_option maxRecDepth 100000 in
theorem tryT_any (o : OpD) (sess zxid : Int) (w : World) (h : TreeIn w tp mp nb T) (ho : TreeOk T) (hp : o.path.length ≤ 1000000) (hg : Gl w) (hlow : ∀ b, Foot tp mp nb T b → gB ≤ b) :
    Calls Tryz.prog 25 #[.pointer (some ⟨tp, 0, none⟩), o.val, .int .i64 sess, .int .i64 zxid] w (DoR w tp mp nb T (doT T o sess zxid true)) := by
  have S := Lib.hid (start2 w tp mp nb T o)
  have G := Lib.hid (hg.pu S.out.pu)
  have H := Lib.hid h
  have Ho := Lib.hid ho
  have HL := Lib.hid hlow
  clear h ho hg hlow
  obtain ⟨k, p, d, v, f⟩ := o
  simp only [zeroRes] at *
  go_enter Tryz.func25, Tryz.ntmps25
  go_wp2_with (first
    | (go_at_call 65; refine (do_any ⟨k, p, d, v, f⟩ sess zxid true _ (H.out.pu S.out.pu) Ho.out hp G.out HL.out).mono ?_; rintro x w5 ⟨nv, rfl, hnv, hs5⟩; obtain ⟨a5, c5, rfl⟩ := hnv.len; have B5 := Lib.hid (hs5.keep (lt_of_blk S.out.res) (fun hx => by have := H.out.lt hx; omega) S.out.res); have HV5 := Lib.hid hnv; have HS5 := Lib.hid hs5; clear hnv hs5)
    | (refine wpl_store_whole rfl 59 (.tmp 8) (.tmp 13) rfl (w.heap.size + 1) ((doT T ⟨k, p, d, v, f⟩ sess zxid true).2.cells (.slice a5 (doT T ⟨k, p, d, v, f⟩ sess zxid true).2.names.length c5)).toArray rfl rfl _ _ B5.out (by rfl) sizeRes (res_all _ _ _ _) ?_; intro w9 hB9 hF9 hs9))
  refine bodyPost_ret (v := .agg ((doT T ⟨k, p, d, v, f⟩ sess zxid true).2.cells (.slice a5 (doT T ⟨k, p, d, v, f⟩ sess zxid true).2.names.length c5)).toArray) (results_cell Tryz.results25 rfl hB9 _ Tryz.underlying59 rfl sizeRes) rfl ?_
  exact DoR.stored H.out S.out.pu HV5.out HS5.out S.out.res (by omega) hF9 rfl

end Go.Proofs.YtmigbgfgnhkmnaaGreatDoor

/- tree.Tree: Copy, Node. -/
namespace Go.Av
open Go.RowKit Go.ChangeMaps Go.MapKept Go.Maps
theorem Iter.not_cells {K V : Type} [DecidableEq K] [Key K] {P : Program} {kt : TypeId} {w : World} {f : K → V → Value} {b r : Nat} {l : List (K × V)} {left : Lit → Bool} {cnt : Nat} (h : Iter P kt w f b r l left cnt) (c : Array Value) (t : TypeId) (fr : Nat × Nat) : w.heap[r]? ≠ some (.cells c t fr) := by
  obtain ⟨es, clock, since, seen, c0, hb0, F, hs, hD, hr0, rest⟩ := h
  rw [hr0]; simp
end Go.Av
namespace Go.Proofs.YtmigbgfgnhkmnaaGreatDoor
open Go.RowKit Go.Av

attribute [local go_sem ↓] Go.wp_at_zero Go.wp_at_succ
attribute [local go_sem] run_makeMap

variable {w w' : World} {tp mp : Nat} {nb : Str → Nat} {T : TreeD}

/-- How far Copy has come: D is laid. -/
structure Copying (w0 : World) (T : TreeD) (s r : Nat) (w : World) (nb' : Str → Nat) (D : List (Str × NodeD)) (left : Lit → Bool) : Prop where
  tree : TreeIn w (s + 1) s nb' ⟨T.room, D⟩
  rise : asorted D
  sub : ∀ x ∈ D, x ∈ T.nodes
  sup : ∀ x ∈ T.nodes, left (Key.lit x.1) = false → x ∈ D
  past : ∀ x ∈ D, r < nb' x.1
  pu : Pu w0 w

theorem sorted_nodup {l : List (Str × NodeD)} (h : asorted l) : l.Nodup := h.imp fun {a b} hab e => by rw [e, Key.irrefl] at hab; cases hab

set_option maxHeartbeats 4000000 in
set_option maxRecDepth 100000 in
theorem copy_any (w : World) (h : TreeIn w tp mp nb T) (ho : TreeOk T) :
    Calls Tryz.prog 49 #[.pointer (some ⟨tp, 0, none⟩)] w fun e w' => ∃ nb', e = .returned (.pointer (some ⟨w.heap.size + 1, 0, none⟩)) ∧ TreeIn w' (w.heap.size + 1) w.heap.size nb' T ∧ Pu w w' ∧ ∀ b, Foot (w.heap.size + 1) w.heap.size nb' T b → w.heap.size ≤ b := by
  obtain ⟨s, hs⟩ : ∃ s, s = w.heap.size := ⟨_, rfl⟩
  have c0 := h.cell0
  have c1 := h.cell1
  have hltp := lt_of_blk h.box
  have T0 : TreeIn ((w.alloc (.map #[] 0)).alloc (.cells #[.int .i64 T.room, .map (some w.heap.size)] 117)) (w.heap.size + 1) w.heap.size nb ⟨T.room, []⟩ := ⟨al2b w _ _, (MapV.made w (fN nb)).pu (pu_alloc _ _), fun x hx => (nomatch hx), fun x hx => (nomatch hx)⟩
  have P0 := (pu_alloc w (.map #[] 0)).tr (pu_alloc _ (.cells #[.int .i64 T.room, .map (some w.heap.size)] 117))
  obtain ⟨w3, left, hrun, hit, hall, hp3, hs3⟩ := (h.map.pu P0).range TS Tryz.underlying115
  obtain ⟨r, hr⟩ : ∃ r, r = ((w.alloc (.map #[] 0)).alloc (.cells #[.int .i64 T.room, .map (some w.heap.size)] 117)).heap.size := ⟨_, rfl⟩
  have hr2 : r = w.heap.size + 2 := by rw [hr]; simp
  rw [← hr] at hrun hit
  have C3 : Hid (Copying w T w.heap.size r w3 nb [] left) := Lib.hid ⟨T0.pu hp3, asorted_nil, fun x hx => (nomatch hx), fun x hx hl => (by rw [hall x hx] at hl; cases hl), fun x hx => (nomatch hx), P0.tr hp3⟩
  have It := Lib.hid hit
  have H := Lib.hid h
  have Ho := Lib.hid ho
  have Hr := Lib.hid hr2
  have hmlt := h.map.lt
  have hmp : Hid (mp ≠ w.heap.size) := Lib.hid (by omega)
  have hlen : T.nodes.length ≤ 1000 := by have := ho.many; have := ho.room1; omega
  clear hr hr2 hit hall hp3 h ho T0 P0 hs s hmlt
  go_enter Tryz.func49, Tryz.ntmps49
  go_wp2
  go_loopw [] (fun wr => ∃ (nb' : Str → Nat) (D : List (Str × NodeD)) (left : Lit → Bool) (cnt : Nat), Hid (Iter Tryz.prog 9 wr (fN nb) mp r T.nodes left cnt) ∧ Hid (Copying w T w.heap.size r wr nb' D left)) (fun wr => wr.rangeLeft mp r)
  case atStart => exact ⟨nb, [], left, _, It, C3⟩
  case round =>
    obtain ⟨nb', D, left', cnt, It', C'⟩ := hrel
    rcases It'.out.next TS 0 with ⟨h0, hd, hn⟩ | ⟨k, v, w5, cnt', hkv, hlk, hn, it5, hlt5, hf5, hs5, hen⟩
    · go_wp2
      go_ret
      have e : D = T.nodes := asorted_ext C'.out.rise Ho.out.rise fun j => by
        refine Option.ext fun u => ?_
        rw [aget_iff C'.out.rise, aget_iff Ho.out.rise]
        exact ⟨fun hm => C'.out.sub _ hm, fun hm => C'.out.sup _ hm (hd _)⟩
      have ht := C'.out.tree
      rw [e] at ht
      refine ⟨nb', rfl, ht, C'.out.pu, ?_⟩
      rintro b (hb | hb | ⟨x, hx, rfl⟩)
      · omega
      · omega
      · have := C'.out.past x (by rw [e]; exact hx)
        have := Hr.out
        omega
    · have hr := Hr.out
      have hlt := C'.out.pu.size
      have Icells := Lib.hid It'.out.not_cells
      have P5 := Lib.hid (pu_of_fr C'.out.pu hf5 (by omega))
      have T5 := Lib.hid (C'.out.tree.fr hf5 (fun b hb e => by
        subst e
        rcases hb with hb | hb | ⟨x, hx, hb⟩
        · omega
        · omega
        · have := C'.out.past x hx; omega) (fun i c fr hi e => by subst e; exact Icells.out _ _ _ hi))
      replace hn : (Instr.next (.pointer (some ⟨r, 0, none⟩)) false 0).run Tryz.prog wr = .ok (.tuple #[.bool true, .string (mkB k), .pointer (some ⟨nb k, 0, none⟩)]) w5 := hn
      replace hen : (Instr.entry (.pointer (some ⟨r, 0, none⟩))).run Tryz.prog w5 = .ok (.tuple #[.string (mkB k), .pointer (some ⟨nb k, 0, none⟩)]) w5 := hen
      have hkl : k.length ≤ 200 := good_len (Ho.out.good _ hkv)
      have N5 := (H.out.pu P5.out).node _ hkv
      obtain ⟨nv, hb5, hv5⟩ := N5
      obtain ⟨na, ncap, rfl⟩ := hv5.len
      have q5 := fun o => cell_of_blk (o := o) hb5
      simp only [NodeD.cells] at q5
      have hno := Lib.hid (Ho.out.node _ hkv)
      have HV5 := Lib.hid hv5
      have I5 := Lib.hid it5
      have C5 := Lib.hid It'.out.left_eq
      have HK := Lib.hid hkv
      have hs1 := hs5
      clear hv5 hb5 it5 hf5 hkv hlk
      have hDl : D.length ≤ 1000 := by
        have := nodup_sub_len D T.nodes (sorted_nodup C'.out.rise) C'.out.sub
        omega
      have step : Hid (∀ (w6 w8 : World) (a2 : Option Addr) (c2 : Nat), Pu w5 w6 → TreeIn w8 (w.heap.size + 1) w.heap.size (updN nb' k w6.heap.size) ⟨T.room, aput k v D⟩ → (w6.alloc (.cells (v.cells (.slice a2 v.names.length c2)).toArray 124)).mapTurned w8 w.heap.size →
          ∃ (nb'' : Str → Nat) (D' : List (Str × NodeD)) (left : Lit → Bool) (cnt : Nat), Hid (Iter Tryz.prog 9 w8 (fN nb) mp r T.nodes left cnt) ∧ Hid (Copying w T w.heap.size r w8 nb'' D' left)) := Lib.hid fun w6 w8 a2 c2 h6 h8 ht => by
        have hf8 : Fr (fun x => x = w.heap.size) w5 w8 := (Fr.of_below (M := fun x => x = w.heap.size) (h6.tr (pu_alloc _ _))).trans (turned_fr ht) (fun _ _ h => h)
        refine ⟨_, _, _, _, Lib.hid (I5.out.fr hf8 hmp.out (by omega)), Lib.hid ⟨h8, aput_sorted C'.out.rise, fun x hx => ?_, fun x hx hl => ?_, fun x hx => ?_, pu_of_fr P5.out hf8 (Nat.le_refl _)⟩⟩
        · rcases mem_aput.1 hx with rfl | ⟨hx, _⟩
          · exact HK.out
          · exact C'.out.sub x hx
        · simp only [Bool.and_eq_false_iff, Bool.not_eq_false'] at hl
          by_cases e : x.1 = k
          · have := sorted_inj Ho.out.rise hx HK.out e
            rw [this]; exact mem_aput.2 (.inl rfl)
          · refine mem_aput.2 (.inr ⟨C'.out.sup x hx ?_, e⟩)
            rcases hl with hl | hl
            · exact hl
            · rw [Key.same_lit] at hl
              exact absurd (by simpa using hl) e
        · rcases mem_aput.1 hx with rfl | ⟨hx, hne⟩
          · have := I5.out.lt
            have := h6.size
            simp only [updN, if_true]; omega
          · simp only [updN, if_neg hne]; exact C'.out.past x hx
      have meas : Hid (∀ (w6 w8 : World) (a2 : Option Addr) (c2 : Nat), Pu w5 w6 → (w6.alloc (.cells (v.cells (.slice a2 v.names.length c2)).toArray 124)).mapTurned w8 w.heap.size → w8.rangeLeft mp r < wr.rangeLeft mp r) := Lib.hid fun w6 w8 a2 c2 h6 ht => by
        have hf8 : Fr (fun x => x = w.heap.size) w5 w8 := (Fr.of_below (M := fun x => x = w.heap.size) (h6.tr (pu_alloc _ _))).trans (turned_fr ht) (fun _ _ h => h)
        rw [(I5.out.fr hf8 hmp.out (by omega)).left_eq, C5.out]; exact hlt5
      clear hr
      go_wp2_with (go_at_call 93; refine (copied_any v _ _ HV5.out hno.out.many).mono ?_; rintro x w6 ⟨nv2, rfl, hv6, hb6⟩; obtain ⟨na2, ncap2, rfl⟩ := hv6.len; have hlt6 := hb6.size; have hT6 := T5.out.pu hb6; obtain ⟨w8, hst, T8, ht8⟩ := (hT6.pu (pu_alloc w6 (.cells (v.cells (.slice na2 v.names.length ncap2)).toArray 124))).put hDl ⟨_, al1 _ _, hv6.pu (pu_alloc _ _)⟩ (fun hb => by have := hT6.lt hb; omega) k (by omega); have d1 := hT6.cell1; have hlc : w.heap.size + 1 < w6.heap.size := lt_of_blk hT6.box; have HB6 := Lib.hid hb6; have HT8 := Lib.hid T8; have Ht8 := Lib.hid ht8; simp only [NodeD.cells] at hst; clear hv6 hb6 T8 ht8 hT6)
      go_roundw
      case rel => exact step.out _ _ _ _ HB6.out HT8.out Ht8.out
      case measure => exact meas.out _ _ _ _ HB6.out Ht8.out

end Go.Proofs.YtmigbgfgnhkmnaaGreatDoor

/- Package multi: Do, Request. -/
namespace Go.Proofs.YtmigbgfgnhkmnaaGreatDoor
open Go.RowKit Go.Av

attribute [local go_sem ↓] Go.wp_at_zero Go.wp_at_succ
attribute [local go_sem] run_makeMap

variable {w w' : World} {tp mp : Nat} {nb : Str → Nat} {T : TreeD}

/-- A tree somewhere in the blocks F. -/
def TreeAt (w : World) (tp : Nat) (F : Nat → Prop) (T : TreeD) : Prop := ∃ mp nb, TreeIn w tp mp nb T ∧ ∀ b, Foot tp mp nb T b → F b

/-- What Do answers: a reply, whether it was done; the tree in its place. -/
def MultiR (w : World) (tp mp : Nat) (nb : Str → Nat) (T : TreeD) (a : TreeD × ReplyD × Bool) (e : Ending) (w' : World) : Prop :=
  ∃ rv mp' nb', e = .returned (.tuple #[.agg (repCells a.2.1 rv).toArray, .bool a.2.2]) ∧ SlR 59 9 w' rv a.2.1.results ∧ TreeIn w' tp mp' nb' a.1 ∧ Fr (fun b => b = tp) w w' ∧ (∀ b, Foot tp mp' nb' a.1 b → Foot tp mp nb T b ∨ w.heap.size ≤ b)

theorem MultiR.fails (h : TreeIn w tp mp nb T) {r : ReplyD} {rv : Value} {e : Ending} {w4 : World} (he : e = .returned (.tuple #[.agg (repCells r rv).toArray, .bool false])) (hs : SlR 59 9 w4 rv r.results) (hp : Pu w w4) : MultiR w tp mp nb T (T, r, false) e w4 :=
  ⟨rv, mp, nb, he, hs, h.pu hp, Fr.of_below hp, fun _ hb => .inl hb⟩

/-- A result of two: the first lies in a block. -/
theorem results_cell_tmp {P : Program} {fn : Func} {t u : Tmp} {ty : TypeId} (h : fn.results = #[.cell t ty, .tmp u]) {tmps : Array Value} {b : Nat} (hb : tmps.getD t undef = .pointer (some ⟨b, 0, none⟩)) {v : Value} (hv : tmps.getD u undef = v) {w : World} {cs : List Value} {e : TypeId} {fr : Nat × Nat}
    (hw : w.heap[b]? = some (.cells cs.toArray e fr)) (d : TypeDesc) (hu : P.underlying ty = some d) (hd : d.isRow = true) (hi : (P.info? ty).map (·.size) = some cs.length) :
    (results fn tmps).run P w = .ok (.tuple #[.agg cs.toArray, v]) w := by
  have hr := run_loadVar_mid w b 0 ty cs d (rangeAt_of_blk hw) hu hd hi
  have hb' : tmps[t]?.getD undef = .pointer (some ⟨b, 0, none⟩) := by simpa using hb
  have hv' : tmps[u]?.getD undef = v := by simpa using hv
  simp [results, h, hb', hv', asAddr, hr]


theorem TreeStep.cells {T' : TreeD} (h : TreeIn w tp mp nb T) (hs : TreeStep w tp mp nb T T' w') {b : Nat} {c : Array Value} {t : TypeId} {fr : Nat × Nat} (hb : w.heap[b]? = some (.cells c t fr)) (h1 : t ≠ 117) (h2 : t ≠ 124) : w'.heap[b]? = some (.cells c t fr) :=
  hs.keep (lt_of_blk hb) (fun hf => by rcases h.not_str hf c t fr hb with e | e <;> contradiction) hb

theorem SlR.block_kept {t ts t' : TypeId} {w w' : World} {v : Value} {l : List ResD} {b : Nat} {c : Array Value} {fr : Nat × Nat} (h : SlR t ts w v l) (hb : w.heap[b]? = some (.cells c t' fr)) (h1 : t' ≠ t) (h2 : t' ≠ ts) (k : Fr (fun x => x = b) w w') : SlR t ts w' v l :=
  h.keep fun i c' e fr' hi he => k.keep i (lt_of_blk hi) fun e' => by
    subst e'
    rw [hb] at hi; cases hi
    rcases he with he | he
    · exact h1 he
    · exact h2 he

abbrev zeroRep : Array Value := #[.int .i64 0, .int .i64 0, .int .i64 0, .int .i64 0, .slice none 0 0]

set_option maxHeartbeats 4000000 in
set_option maxRecDepth 100000 in
theorem multi_short {tO : TypeId} (sess zxid : Int) (l : List OpD) (v : Value) (w : World) (h : TreeIn w tp mp nb T) (hv : SlO tO w v l) (e : Int) (he : 16 < l.length ∧ e = 2 ∨ l.length = 0 ∧ e = 1) (hl : l.length ≤ 1000000) :
    Calls Tryz.prog 48 #[.pointer (some ⟨tp, 0, none⟩), .int .i64 sess, .int .i64 zxid, v] w (MultiR w tp mp nb T (T, failRep 0 e (-1) 0, false)) := by
  obtain ⟨a, cap, rfl, hc⟩ := hv.len
  have H := Lib.hid h
  have B := Lib.hid (al1 w (.cells zeroRep 34))
  clear h hv
  rcases he with ⟨hn, rfl⟩ | ⟨hn, rfl⟩
  all_goals
    go_enter Tryz.func48, Tryz.ntmps48
    go_wp2_with (first
      | (go_at_call 44; refine (fail_any 0 _ (-1) 0 _ (by omega)).mono ?_; rintro x w3 ⟨rv, rfl, hs3, hb3⟩; obtain ⟨ra, rc, rfl⟩ := hs3.len; have HS3 := Lib.hid hs3; have HB3 := Lib.hid hb3; clear hs3 hb3)
      | (refine wpl_store_whole rfl 34 (.tmp 8) (.tmp 19) rfl w.heap.size _ rfl rfl _ _ ((HB3.out.block _ (lt_of_blk B.out)).trans B.out) (by rfl) sizeReply (rep_one _ _ _ _) ?_; intro w9 hB9 hF9 hs9)
      | (refine wpl_store_whole rfl 34 (.tmp 8) (.tmp 24) rfl w.heap.size _ rfl rfl _ _ ((HB3.out.block _ (lt_of_blk B.out)).trans B.out) (by rfl) sizeReply (rep_one _ _ _ _) ?_; intro w9 hB9 hF9 hs9))
    have B3 := (HB3.out.block _ (lt_of_blk B.out)).trans B.out
    refine bodyPost_ret (v := .tuple #[.agg (repCells (failRep 0 _ (-1) 0) (.slice ra _ rc)).toArray, .bool false]) (results_cell_tmp Tryz.results48 rfl rfl hB9 _ Tryz.underlying34 rfl sizeReply) rfl ?_
    exact MultiR.fails H.out rfl (SlR.block_kept HS3.out B3 (by decide) (by decide) hF9) (pu_of_fr ((pu_alloc _ _).tr HB3.out) hF9 (Nat.le_refl _))


theorem Gl.le (h : Gl w) : gB ≤ w.heap.size := by
  obtain ⟨_, h2, h3, _⟩ := h
  unfold gB; omega

/-- How far Do has come: k ops are done, on the copy. -/
structure Doing (w0 : World) (T : TreeD) (sess zxid : Int) (l : List OpD) (b11 k : Nat) (w : World) (nb' : Str → Nat) (rv : Value) (zs : List (ResD × Value)) : Prop where
  tree : TreeIn w (w0.heap.size + 1 + 1) (w0.heap.size + 1) nb' (runR T sess zxid (l.take k)).1
  foot : ∀ b, Foot (w0.heap.size + 1 + 1) (w0.heap.size + 1) nb' (runR T sess zxid (l.take k)).1 b → w0.heap.size + 1 ≤ b
  out : w.heap[w0.heap.size]? = some (.cells zeroRep 34 (0, 0))
  rep : w.heap[b11]? = some (.cells (repCells ⟨0, zxid, 0, -1, []⟩ rv).toArray 34 (0, 0))
  own : w.ownsRow (w0.heap.size + 1) 59 11 rv k (rcells zs)
  eq : zs.map (·.1) = (runR T sess zxid (l.take k)).2
  names : ∀ z ∈ zs, SlS 9 w z.2 z.1.names
  good : ∀ r ∈ (runR T sess zxid (l.take k)).2, bad r = false
  pu : Pu w0 w
  lt : w0.heap.size < b11

theorem own_keep {w w' : World} {B : Nat} {e : TypeId} {sz n : Nat} {v : Value} {xs : List Value} (h : w.ownsRow B e sz v n xs) (hk : ∀ (b : Nat) (c : Array Value) (fr : Nat × Nat), w.heap[b]? = some (.cells c e fr) → w'.heap[b]? = some (.cells c e fr)) : w'.ownsRow B e sz v n xs := by
  rcases h with ⟨h1, ⟨rfl, hn⟩ | ⟨g, cap, cur, rfl, hBg, hg, r⟩⟩
  · exact ⟨h1, .inl ⟨rfl, hn⟩⟩
  · exact ⟨h1, .inr ⟨g, cap, cur, rfl, hBg, hk _ _ _ hg, r⟩⟩
/-- Nothing old is written by a row's growth but the row, of this type. -/
theorem own_kind {w : World} {B : Nat} {e : TypeId} {sz n : Nat} {v : Value} {xs : List Value} (h : w.ownsRow B e sz v n xs) {b : Nat} (hb : v.ownBlock = some b) : ∃ c, w.heap[b]? = some (.cells c e (0, 0)) := by
  rcases h with ⟨h1, ⟨rfl, hn⟩ | ⟨g, cap, cur, rfl, hBg, hg, r⟩⟩
  · cases hb
  · cases hb; exact ⟨cur, hg⟩

theorem Doing.next {w0 wr w5 w7 : World} {sess zxid : Int} {l : List OpD} {b11 k : Nat} {nb' : Str → Nat} {rv nv v' : Value} {zs : List (ResD × Value)} {oc rc : Obj} {a : TreeD × ResD}
    (D : Doing w0 T sess zxid l b11 k wr nb' rv zs) (hlt : k < l.length) (ha : a = doT (runR T sess zxid (l.take k)).1 l[k] sess zxid false) (hs : TreeStep (wr.alloc oc) (w0.heap.size + 1 + 1) (w0.heap.size + 1) nb' (runR T sess zxid (l.take k)).1 a.1 w5) (hv : SlS 9 w5 nv a.2.names)
    (he : a.2.err = 0) (ho : w7.ownsRow (w0.heap.size + 1) 59 11 v' (k + 1) (rcells zs ++ a.2.cells nv)) (hg : ((w5.alloc rc).alloc rc).grownBy w7 rv.ownBlock) :
    ∃ a7 c7 nb'' zs', v' = .slice a7 (k + 1) c7 ∧ w7.cell? ⟨b11, 4, none⟩ = some rv ∧ w7.frozen? ⟨b11, 4, none⟩ = false ∧ Doing w0 T sess zxid l b11 (k + 1) (w7.setCell ⟨b11, 4, none⟩ v') nb'' v' zs' := by
  obtain ⟨a7, c7, hv7, _⟩ := (Sl.of_own ho).form
  have T3 := D.tree.pu (pu_alloc wr oc)
  have k5 : ∀ {b : Nat} {c : Array Value} {t : TypeId} {fr : Nat × Nat}, wr.heap[b]? = some (.cells c t fr) → t ≠ 117 → t ≠ 124 → w5.heap[b]? = some (.cells c t fr) := fun hb h1 h2 => TreeStep.cells T3 hs (al_old _ _ hb) h1 h2
  have own5 := own_keep (w' := w5) D.own fun b c fr hb => k5 hb (by decide) (by decide)
  have k7 : ∀ {b : Nat} {o : Obj}, w5.heap[b]? = some o → (∀ c, o ≠ .cells c 59 (0, 0)) → w7.heap[b]? = some o := fun {b o} hb hne => by
    refine (hg.block b (by have := lt_of_blk hb; simp; omega) fun e => ?_).trans (al_old _ _ (al_old _ _ hb))
    obtain ⟨c, hc⟩ := own_kind own5 e.symm
    rw [hb] at hc
    exact hne c (Option.some.inj hc)
  have rep7 := k7 (k5 D.rep (by decide) (by decide)) (fun c e => by cases e)
  have out7 := k7 (k5 D.out (by decide) (by decide)) (fun c e => by cases e)
  obtain ⟨nb'', h1, h2, h3⟩ := hs
  have hnoResult : ∀ b, Foot (w0.heap.size + 1 + 1) (w0.heap.size + 1) nb'' a.1 b → ∀ c fr, w5.heap[b]? ≠ some (.cells c 59 fr) := fun b hb c fr hc => by
    rcases h1.not_str hb _ _ _ hc with e | e <;> revert e <;> decide
  have F7 : Fr (fun b => ∃ c fr, w5.heap[b]? = some (.cells c 59 fr)) w5 w7 := by
    refine ⟨hg.os, hg.tape, hg.output, Nat.le_trans (by simp; omega) hg.size, fun b hb hn => (hg.block b (by simp; omega) fun e => ?_).trans ((al_old' _ _ (by simp; omega)).trans (al_old' _ _ hb))⟩
    obtain ⟨c, hc⟩ := own_kind own5 e.symm
    exact hn ⟨c, _, hc⟩
  have h7 : TreeIn w7 (w0.heap.size + 1 + 1) (w0.heap.size + 1) nb'' a.1 := h1.fr F7 (fun b hb hm => by obtain ⟨c, fr, hc⟩ := hm; exact hnoResult b hb c fr hc) (fun i c fr hi hm => by obtain ⟨c', fr', hc⟩ := hm; rw [hi] at hc; cases hc)
  have F8 : Fr (fun b => b = b11) w7 (w7.setCell ⟨b11, 4, none⟩ v') := fr_set (Fr.refl _ _) _ _
  have h8 : TreeIn (w7.setCell ⟨b11, 4, none⟩ v') (w0.heap.size + 1 + 1) (w0.heap.size + 1) nb'' a.1 := h7.fr F8 (fun b hb e => by
    subst e
    rcases h7.not_str hb _ _ _ rep7 with e | e <;> revert e <;> decide) (fun i c fr hi e => by subst e; rw [rep7] at hi; cases hi)
  have hstr : ∀ {b : Nat} {c : Array Value} {fr : Nat × Nat}, w5.heap[b]? = some (.cells c 9 fr) → (w7.setCell ⟨b11, 4, none⟩ v').heap[b]? = some (.cells c 9 fr) := fun {b c fr} hb => by
    have h := k7 hb (fun c e => by cases e)
    rw [← h]
    exact F8.keep b (lt_of_blk h) (fun e => by subst e; rw [rep7] at h; cases h)
  have eT : (runR T sess zxid (l.take (k + 1))) = (a.1, (runR T sess zxid (l.take k)).2 ++ [a.2]) := by
    rw [runR_take hlt, stepR, ← ha]
  have hlt11 := D.lt
  have hp3 : Pu w0 (wr.alloc oc) := D.pu.tr (pu_alloc _ _)
  have hown7 : ∀ b, v'.ownBlock = some b → b ≠ b11 := fun b hb e => by
    subst e
    obtain ⟨c, hc⟩ := own_kind ho hb
    rw [rep7] at hc; cases hc
  refine ⟨a7, c7, nb'', zs ++ [(a.2, nv)], hv7, cell_of_blk rep7, frozen_of_blk rep7, ⟨by rw [eT]; exact h8, fun b hb => ?_, ?_, ?_, ?_, ?_, ?_, ?_, ?_, D.lt⟩⟩
  · rw [eT] at hb
    rcases h3 b hb with h | h
    · exact D.foot b h
    · have := D.pu.size; simp at h; omega
  · exact (other_set (by omega) _ _).trans out7
  · simpa [repCells] using setCell_blk rep7 4 v'
  · rw [rcells_append]
    have e : rcells [(a.2, nv)] = a.2.cells nv := by simp [rcells]
    rw [e]
    exact ownsRow_setCell_other ho (fun e => hown7 _ e rfl) v'
  · rw [eT]; simp [D.eq]
  · intro z hz
    rcases List.mem_append.1 hz with hz | hz
    · exact Sl.keep (D.names z hz) fun b c fr hb => (hstr (k5 hb (by decide) (by decide))).trans hb.symm
    · simp at hz; subst hz
      exact Sl.keep hv fun b c fr hb => (hstr hb).trans hb.symm
  · rw [eT]
    intro r hr
    rcases List.mem_append.1 hr with hr | hr
    · exact D.good r hr
    · simp at hr; subst hr; simp [bad, he]
  · refine pu_of_fr ?_ F8 (by omega)
    have hp5 : Pu w0 w5 := ⟨h2.os.trans hp3.os, h2.tape.trans hp3.tape, h2.output.trans hp3.output, Nat.le_trans hp3.size h2.size, fun b hb => (h2.keep b (Nat.lt_of_lt_of_le hb hp3.size) fun hf => by have := D.foot b hf; omega).trans (hp3.block b hb)⟩
    refine ⟨hg.os.trans hp5.os, hg.tape.trans hp5.tape, hg.output.trans hp5.output, Nat.le_trans hp5.size F7.size, fun b hb => ?_⟩
    have hb5 := Nat.lt_of_lt_of_le hb hp5.size
    refine ((hg.block b (by simp; omega) fun e => ?_).trans ((al_old' _ _ (by simp; omega)).trans (al_old' _ _ hb5))).trans (hp5.block b hb)
    have := own_ge own5 _ e.symm
    omega

theorem tree_one (r : Int) (m : Nat) : ((#[.int .i64 r, .map (some m)] : Array Value).all fun x => x.oneCell') = true := by simp [Value.oneCell']
theorem sizeTree : (Tryz.prog.info? 117).map (·.size) = some 2 := by kernel_rfl
/-- '*t = *c'. -/
theorem Doing.done {w0 wr w8 w9 : World} {sess zxid : Int} {l : List OpD} {b11 : Nat} {nb' : Str → Nat} {ra : Option Addr} {rc k : Nat} {zs : List (ResD × Value)} (hk : k = l.length) (h0 : 0 < l.length) (h16 : l.length ≤ 16)
    (D : Doing w0 T sess zxid l b11 k wr nb' (.slice ra k rc) zs) (h : TreeIn w0 tp mp nb T) (h8 : w8.heap[tp]? = some (.cells #[.int .i64 (runR T sess zxid (l.take k)).1.room, .map (some (w0.heap.size + 1))] 117 (0, 0))) (F8 : Fr (fun b => b = tp) wr w8)
    (F9 : Fr (fun b => b = w0.heap.size) w8 w9) {e : Ending} (he : e = .returned (.tuple #[.agg (repCells ⟨0, zxid, 0, -1, []⟩ (.slice ra k rc)).toArray, .bool true])) : MultiR w0 tp mp nb T (multiDo T sess zxid l) e w9 := by
  have htp := lt_of_blk h.box
  have hle := D.pu.size
  have htpr := (D.pu.block tp htp).trans h.box
  have hout := D.out
  subst hk
  have D' := D
  rw [multiDo_ok h0 h16 (by have := D.good; rwa [List.take_length] at this)]
  have ht := D.tree
  have hf := D.foot
  have heq := D.eq
  rw [List.take_length] at ht hf heq h8
  have str8 : ∀ {b : Nat} {c : Array Value} {t : TypeId} {fr : Nat × Nat}, wr.heap[b]? = some (.cells c t fr) → t ≠ 117 → t ≠ 34 → w9.heap[b]? = some (.cells c t fr) := fun {b c t fr} hb h1 h2 => by
    have e8 := (F8.keep b (lt_of_blk hb) (fun e => by subst e; rw [htpr] at hb; cases hb; exact h1 rfl)).trans hb
    refine (F9.keep b (lt_of_blk e8) (fun e => ?_)).trans e8
    subst e; rw [hout] at hb; cases hb; exact h2 rfl
  have keep9 : ∀ {b : Nat}, w0.heap.size < b → b < wr.heap.size → w9.heap[b]? = wr.heap[b]? := fun {b} h1 h2 => (F9.keep b (Nat.lt_of_lt_of_le h2 F8.size) (by omega)).trans (F8.keep b h2 (by omega))
  refine ⟨.slice ra l.length rc, w0.heap.size + 1, nb', he, ⟨zs, heq, ?_, fun z hz => Sl.keep (D.names z hz) fun b c fr hb => (str8 hb (by decide) (by decide)).trans hb.symm⟩, ⟨?_, ht.map.keep (keep9 (by omega) ht.map.lt), fun x hx => ?_, ht.inj⟩, ?_, fun b hb => ?_⟩
  · have hl : zs.length = l.length := by have := congrArg List.length heq; simpa [runR_len] using this
    rw [hl]
    exact (Sl.of_own D.own).keep fun b c fr hb => (str8 hb (by decide) (by decide)).trans hb.symm
  · exact (F9.keep tp (lt_of_blk h8) (by omega)).trans h8
  · have := hf _ (.inr (.inr ⟨x, hx, rfl⟩))
    exact (ht.node x hx).keep (keep9 (by omega) (ht.node x hx).lt) fun i c fr hi => (str8 hi (by decide) (by decide)).trans hi.symm
  · exact ((Fr.of_below (M := fun b => b = tp) D.pu).trans F8 fun _ _ h => h).trans F9 fun x hx e => by omega
  · rcases hb with hb | hb | ⟨x, hx, rfl⟩
    · exact .inl (.inl hb)
    · exact .inr (by omega)
    · exact .inr (by have := hf _ (.inr (.inr ⟨x, hx, rfl⟩)); omega)

set_option maxHeartbeats 4000000 in
set_option maxRecDepth 100000 in
theorem multi_long {tO : TypeId} (sess zxid : Int) (l : List OpD) (v : Value) (w : World) (h : TreeIn w tp mp nb T) (ho : TreeOk T) (hv : SlO tO w v l) (h0 : 0 < l.length) (h16 : l.length ≤ 16) (hp : ∀ o ∈ l, o.path.length ≤ 1000000) (hg : Gl w) :
    Calls Tryz.prog 48 #[.pointer (some ⟨tp, 0, none⟩), .int .i64 sess, .int .i64 zxid, v] w (MultiR w tp mp nb T (multiDo T sess zxid l)) := by
  obtain ⟨b, off, cap, rfl, h2, h3, h4⟩ := hv.pos h0
  have H := Lib.hid h
  have Ho := Lib.hid ho
  have Hp := Lib.hid hp
  have Hg := Lib.hid hg
  have H4 := Lib.hid h4
  have B := Lib.hid (al1 w (.cells zeroRep 34))
  obtain ⟨i0, hi, hz0, hz1, hz2⟩ := info_parts infoRes
  have Hi := Lib.hid hi
  obtain ⟨R, hR⟩ : ∃ R, R = multiDo T sess zxid l := ⟨_, rfl⟩
  rw [← hR]
  have HR := Lib.hid hR
  clear h hv ho hp hg h4 hi hR
  go_enter Tryz.func48, Tryz.ntmps48
  go_wp2_with (go_at_call 49; refine (copy_any _ (H.out.pu (pu_alloc _ _)) Ho.out).mono ?_; rintro x w1 ⟨nb1, rfl, T1, hb1, hf1⟩; simp only [World.size_alloc] at T1 hf1; have HT1 := Lib.hid T1; have HB1 := Lib.hid hb1; have HF1 := Lib.hid hf1; have hlt1 := hb1.size; clear T1 hb1 hf1)
  go_loopw [31] (fun i wr => ∃ (k : Nat) (nb' : Str → Nat) (rv : Value) (zs : List (ResD × Value)), k ≤ l.length ∧ i = .int .i64 k ∧ Hid (Doing w T sess zxid l w1.heap.size k wr nb' rv zs)) (fun i _ => l.length - (intOf i).toNat)
  case atStart =>
    refine ⟨0, nb1, .slice none 0 0, [], Nat.zero_le _, rfl, Lib.hid ⟨HT1.out.pu (pu_alloc _ _), HF1.out, ?_, ?_, ⟨rfl, .inl ⟨rfl, rfl⟩⟩, rfl, (fun z hz => (nomatch hz)), (fun z hz => (nomatch hz)), ((pu_alloc _ _).tr HB1.out).tr (pu_alloc _ _), by simp at hlt1; omega⟩⟩
    · exact al_old _ _ ((HB1.out.block _ (by simp)).trans B.out)
    · exact al1 _ _
  case round =>
    obtain ⟨k, nb', rv, zs, hk, rfl, D⟩ := hrel
    by_cases hlt : k < l.length
    · obtain ⟨o, ho⟩ : ∃ o, o = l[k] := ⟨_, rfl⟩
      have hop := Hp.out _ (List.getElem_mem hlt)
      have h4 := H4.out k hlt
      rw [← ho] at h4 hop
      obtain ⟨c0, c1, c2, c3, c4⟩ := h4
      have hcell := (bcell D.out.pu).1
      obtain ⟨a, ha⟩ : ∃ a, a = doT (runR T sess zxid (l.take k)).1 o sess zxid false := ⟨_, rfl⟩
      have e0 := (hcell b (off + k * 5) h3).trans c0
      have e1 := (hcell b (off + k * 5 + 1) h3).trans c1
      have e2 := (hcell b (off + k * 5 + 2) h3).trans c2
      have e3 := (hcell b (off + k * 5 + 3) h3).trans c3
      have e4 := (hcell b (off + k * 5 + 4) h3).trans c4
      have Hol := Lib.hid ho
      have Ha := Lib.hid ha
      clear c0 c1 c2 c3 c4 hcell ho ha
      obtain ⟨ra, rc, rfl, _⟩ := (Sl.of_own D.out.own).form
      have P5 : Hid (∀ w5, TreeStep (wr.alloc (.cells #[.int .i64 o.kind, .string (mkB o.path), .string (mkB o.data), .int .i64 o.version, .int .i64 o.flags] 50)) (w.heap.size + 1 + 1) (w.heap.size + 1) nb' (runR T sess zxid (l.take k)).1 a.1 w5 → Pu w w5) := Lib.hid fun w5 h5 => by
        obtain ⟨_, _, h2, _⟩ := h5
        have hp3 := D.out.pu.tr (pu_alloc wr (.cells #[.int .i64 o.kind, .string (mkB o.path), .string (mkB o.data), .int .i64 o.version, .int .i64 o.flags] 50))
        exact ⟨h2.os.trans hp3.os, h2.tape.trans hp3.tape, h2.output.trans hp3.output, Nat.le_trans hp3.size h2.size, fun b hb => (h2.keep b (Nat.lt_of_lt_of_le hb hp3.size) fun hf => by have := D.out.foot b hf; omega).trans (hp3.block b hb)⟩
      have hlw := D.out.lt
      by_cases he : a.2.err = 0
      · have he' : (a.2.err == 0) = true := by simpa using he
        have He := Lib.hid he
        clear he
        go_wp2_with (first
          | (go_at_call 92; (refine (doT_any o sess zxid _ (D.out.tree.pu (pu_alloc _ _)) (runR_ok Ho.out _) hop (Hg.out.pu (D.out.pu.tr (pu_alloc _ _))) (fun x hx => Nat.le_trans (Gl.le Hg.out) (by have := D.out.foot x hx; omega))).mono ?_; rw [← Ha.out]; rintro x w5 ⟨nv, rfl, hnv, hs5⟩; obtain ⟨na, nc, rfl⟩ := hnv.len; have R5 := TreeStep.cells (D.out.tree.pu (pu_alloc _ _)) hs5 (al_old _ _ D.out.rep) (by decide) (by decide); have d4 : w5.cell? ⟨w1.heap.size, 4, none⟩ = some (.slice ra k rc) := cell_of_blk R5; have f4 : w5.frozen? ⟨w1.heap.size, 4, none⟩ = false := frozen_of_blk R5; have hl5 : w1.heap.size < w5.heap.size := lt_of_blk R5; have hl6 : w1.heap.size < w5.heap.size + 1 := (by omega); have O5 := Lib.hid (TreeStep.cells (D.out.tree.pu (pu_alloc _ _)) hs5 (al_old _ _ D.out.out) (by decide) (by decide)); have own5 := Lib.hid (own_keep (w' := w5) D.out.own fun b c fr hb => TreeStep.cells (D.out.tree.pu (pu_alloc _ _)) hs5 (al_old _ _ hb) (by decide) (by decide)); have HV5 := Lib.hid hnv; have HS5 := Lib.hid hs5; clear hnv hs5 R5))
          | (at_builtin; refine wpList_append_own _ rfl (.tmp 51) (.tmp 53) 32 rfl (w.heap.size + 1) 59 i0 _ 11 120 Tryz.underlying32 Hi.out hz0 hz1 hz2 rfl (by decide) (.slice ra k rc) k _ rfl (own_pu own5.out ((pu_alloc _ _).tr (pu_alloc _ _))) ⟨w5.heap.size + 1, 0, none⟩ 1 1 (a.2.cells (.slice na a.2.names.length nc)) rfl rfl (news_at (al2b w5 _ _)) (res_one _ _ _ _) (by unfold maxLen; omega) (by omega) (by simp; omega) ?_; intro v' w7 hown' hgrow _; obtain ⟨a7, c7, nb7, zs7, rfl, hc7, hf7, D7⟩ := Doing.next D.out hlt (by rw [Ha.out, Hol.out]) HS5.out HV5.out He.out hown' hgrow; have HD7 := Lib.hid D7; clear hown' hgrow D7))
        go_roundw
        case rel => exact ⟨k + 1, _, _, _, by omega, by go_num, HD7⟩
        case measure => simp [intOf]; omega
      · have he' : (a.2.err == 0) = false := by simpa using he
        have hRv := Lib.hid (multiDo_at h0 h16 hlt D.out.good (e := a.2.err) (by rw [Ha.out, Hol.out]) he)
        have hR' : R = _ := HR.out.trans hRv.out
        subst hR'
        clear he
        go_wp2_with (first
          | (go_at_call 92; refine (doT_any o sess zxid _ (D.out.tree.pu (pu_alloc _ _)) (runR_ok Ho.out _) hop (Hg.out.pu (D.out.pu.tr (pu_alloc _ _))) (fun x hx => Nat.le_trans (Gl.le Hg.out) (by have := D.out.foot x hx; omega))).mono ?_; rw [← Ha.out]; rintro x w5 ⟨nv, rfl, hnv, hs5⟩; obtain ⟨na, nc, rfl⟩ := hnv.len; have R5 := TreeStep.cells (D.out.tree.pu (pu_alloc _ _)) hs5 (al_old _ _ D.out.rep) (by decide) (by decide); have d4 : w5.cell? ⟨w1.heap.size, 4, none⟩ = some (.slice ra k rc) := cell_of_blk R5; have f4 : w5.frozen? ⟨w1.heap.size, 4, none⟩ = false := frozen_of_blk R5; have hl5 : w1.heap.size < w5.heap.size := lt_of_blk R5; have hl6 : w1.heap.size < w5.heap.size + 1 := (by omega); have O5 := Lib.hid (TreeStep.cells (D.out.tree.pu (pu_alloc _ _)) hs5 (al_old _ _ D.out.out) (by decide) (by decide)); have own5 := Lib.hid (own_keep (w' := w5) D.out.own fun b c fr hb => TreeStep.cells (D.out.tree.pu (pu_alloc _ _)) hs5 (al_old _ _ hb) (by decide) (by decide)); have HV5 := Lib.hid hnv; have HS5 := Lib.hid hs5; clear hnv hs5 R5)
          | (go_at_call 44; refine (fail_any 0 a.2.err k l.length _ (by omega)).mono ?_; rintro x w6 ⟨rv6, rfl, hs6, hb6⟩; obtain ⟨ra6, rc6, rfl⟩ := hs6.len; have HS6 := Lib.hid hs6; have HB6 := Lib.hid hb6; clear hs6 hb6)
          | (refine wpl_store_whole rfl 34 (.tmp 8) (.tmp 49) rfl w.heap.size _ rfl rfl _ _ ((HB6.out.block _ (lt_of_blk (al_old _ _ O5.out))).trans (al_old _ _ O5.out)) (by rfl) sizeReply (rep_one _ _ _ _) ?_; intro w9 hB9 hF9 hs9))
        have B6 := (HB6.out.block _ (lt_of_blk (al_old w5 _ O5.out))).trans (al_old _ _ O5.out)
        refine bodyPost_ret (v := .tuple #[.agg (repCells (failRep 0 a.2.err k l.length) (.slice ra6 _ rc6)).toArray, .bool false]) (results_cell_tmp Tryz.results48 rfl rfl hB9 _ Tryz.underlying34 rfl sizeReply) rfl ?_
        exact MultiR.fails H.out rfl (SlR.block_kept HS6.out B6 (by decide) (by decide) hF9) (pu_of_fr (((P5.out _ HS5.out).tr (pu_alloc _ _)).tr HB6.out) hF9 (Nat.le_refl _))
    · have hk' : k = l.length := by omega
      obtain ⟨ra, rc, rfl, _⟩ := (Sl.of_own D.out.own).form
      have q := fun o => cell_of_blk (o := o) D.out.tree.box
      have qr := fun o => cell_of_blk (o := o) D.out.rep
      have hltp : tp < w.heap.size := lt_of_blk H.out.box
      have TP := Lib.hid ((D.out.pu.block tp hltp).trans H.out.box)
      have hlw := D.out.lt
      have Q8 : Hid (∀ w8, Fr (fun b => b = tp) wr w8 → w8.heap[w1.heap.size]? = some (.cells (repCells ⟨0, zxid, 0, -1, []⟩ (.slice ra k rc)).toArray 34 (0, 0))) := Lib.hid fun w8 h8 => (h8.keep _ (lt_of_blk D.out.rep) (by omega)).trans D.out.rep
      have O8 : Hid (∀ w8, Fr (fun b => b = tp) wr w8 → w8.heap[w.heap.size]? = some (.cells zeroRep 34 (0, 0))) := Lib.hid fun w8 h8 => (h8.keep _ (lt_of_blk D.out.out) (by omega)).trans D.out.out
      have Hk := Lib.hid hk'
      clear hk'
      go_wp2_with (first
        | (refine wpl_store_whole rfl 117 (.tmp 61) (.tmp 60) rfl tp #[.int .i64 (runR T sess zxid (l.take k)).1.room, .map (some (w.heap.size + 1))] rfl rfl _ _ TP.out (by rfl) sizeTree (tree_one _ _) ?_; intro w8 hB8 hF8 hs8; have q8 := (fun o => cell_of_blk (o := o) (Q8.out _ hF8)); have HB8 := Lib.hid hB8; have HF8 := Lib.hid hF8; simp only [repCells] at q8; clear hB8 hF8)
        | (refine wpl_store_whole rfl 34 (.tmp 8) (.tmp 62) rfl w.heap.size (repCells ⟨0, zxid, 0, -1, []⟩ (.slice ra k rc)).toArray rfl rfl _ _ (O8.out _ HF8.out) (by rfl) sizeReply (rep_one _ _ _ _) ?_; intro w9 hB9 hF9 hs9))
      refine bodyPost_ret (v := .tuple #[.agg (repCells ⟨0, zxid, 0, -1, []⟩ (.slice ra k rc)).toArray, .bool true]) (results_cell_tmp Tryz.results48 rfl rfl hB9 _ Tryz.underlying34 rfl sizeReply) rfl ?_
      rw [HR.out]
      exact Doing.done Hk.out h0 h16 D.out H.out HB8.out HF8.out hF9 rfl

end Go.Proofs.YtmigbgfgnhkmnaaGreatDoor

/- Package multi: Request. -/
namespace Go.Proofs.YtmigbgfgnhkmnaaGreatDoor
open Go.RowKit Go.Av

attribute [local go_sem ↓] Go.wp_at_zero Go.wp_at_succ
attribute [local go_sem] run_makeMap

variable {w w' : World} {tp mp : Nat} {nb : Str → Nat} {T : TreeD}

theorem multi_any {tO : TypeId} (sess zxid : Int) (l : List OpD) (v : Value) (w : World) (h : TreeIn w tp mp nb T) (ho : TreeOk T) (hv : SlO tO w v l) (hl : l.length ≤ 1000000) (hp : ∀ o ∈ l, o.path.length ≤ 1000000) (hg : Gl w) :
    Calls Tryz.prog 48 #[.pointer (some ⟨tp, 0, none⟩), .int .i64 sess, .int .i64 zxid, v] w (MultiR w tp mp nb T (multiDo T sess zxid l)) := by
  by_cases h16 : 16 < l.length
  · have := multi_short sess zxid l v w h hv 2 (.inl ⟨h16, rfl⟩) hl
    have e : multiDo T sess zxid l = (T, failRep 0 2 (-1) 0, false) := by simp [multiDo, h16]
    rw [e]; exact this
  · by_cases h0 : l.length = 0
    · have := multi_short sess zxid l v w h hv 1 (.inr ⟨h0, rfl⟩) hl
      have e : multiDo T sess zxid l = (T, failRep 0 1 (-1) 0, false) := by rw [multiDo, if_neg h16, if_pos h0]
      rw [e]; exact this
    · exact multi_long sess zxid l v w h ho hv (by omega) (by omega) hp hg


/-- What Request answers; the tree in its place. -/
def ReqR (w : World) (tp mp : Nat) (nb : Str → Nat) (T : TreeD) (a : TreeD × ReplyD) (e : Ending) (w' : World) : Prop :=
  ∃ rv mp' nb', e = .returned (.agg (repCells a.2 rv).toArray) ∧ SlR 59 9 w' rv a.2.results ∧ TreeIn w' tp mp' nb' a.1 ∧ Fr (fun b => b = tp) w w' ∧ (∀ b, Foot tp mp' nb' a.1 b → Foot tp mp nb T b ∨ w.heap.size ≤ b)

set_option maxHeartbeats 4000000 in
set_option maxRecDepth 100000 in
theorem request_bad {tO : TypeId} (r : Req) (zxid : Int) (v : Value) (w : World) (h : TreeIn w tp mp nb T) (hv : SlO tO w v r.ops) (hp : ∀ o ∈ r.ops, o.path.length ≤ 1000000) (hg : Gl w) (hm : may r ≠ 0) :
    Calls Tryz.prog 46 #[.pointer (some ⟨tp, 0, none⟩), .agg #[.int .i64 r.sess, .int .i64 r.num, v], .int .i64 zxid] w (ReqR w tp mp nb T (multiReq T r zxid)) := by
  have e1 : multiReq T r zxid = (T, failRep r.num (may r) (-1) 0) := by simp [multiReq, hm]
  rw [e1]
  obtain ⟨a, cap, rfl, hc⟩ := hv.len
  have H := Lib.hid h
  have P2 := Lib.hid ((pu_alloc w (.cells #[.int .i64 r.sess, .int .i64 r.num, .slice a r.ops.length cap] 37)).tr (pu_alloc _ (.cells zeroRep 34)))
  have B1 := Lib.hid (al2a w (.cells #[.int .i64 r.sess, .int .i64 r.num, .slice a r.ops.length cap] 37) (.cells zeroRep 34))
  have B2 := Lib.hid (al2b w (.cells #[.int .i64 r.sess, .int .i64 r.num, .slice a r.ops.length cap] 37) (.cells zeroRep 34))
  have Hv := Lib.hid hv
  have Hp := Lib.hid hp
  have Hg := Lib.hid hg
  obtain ⟨m, hm'⟩ : ∃ m, m = may r := ⟨_, rfl⟩
  rw [← hm'] at hm ⊢
  have HM := Lib.hid hm'
  clear h hv hp hg hm' e1
  go_enter Tryz.func46, Tryz.ntmps46
  go_wp2_with (first
    | (go_at_call 20; refine (may_any r _ _ (Hv.out.pu P2.out) Hp.out (Hg.out.pu P2.out)).mono ?_; rw [← HM.out]; rintro x w3 ⟨rfl, hb3⟩; have q3 : w3.cell? ⟨w.heap.size, 1, none⟩ = some (.int .i64 r.num) := cell_of_blk ((hb3.block _ (lt_of_blk B1.out)).trans B1.out); have HB3 := Lib.hid hb3; clear hb3)
    | (go_at_call 44; refine (fail_any r.num m (-1) 0 _ (by omega)).mono ?_; rintro x w4 ⟨rv, rfl, hs4, hb4⟩; obtain ⟨ra, rc, rfl⟩ := hs4.len; have HS4 := Lib.hid hs4; have HB4 := Lib.hid hb4; clear hs4 hb4)
    | (refine wpl_store_whole rfl 34 (.tmp 6) (.tmp 17) rfl (w.heap.size + 1) _ rfl rfl _ _ (((HB3.out.tr HB4.out).block _ (lt_of_blk B2.out)).trans B2.out) (by rfl) sizeReply (rep_one _ _ _ _) ?_; intro w9 hB9 hF9 hs9))
  have B4 := ((HB3.out.tr HB4.out).block _ (lt_of_blk B2.out)).trans B2.out
  refine bodyPost_ret (v := .agg (repCells (failRep r.num m (-1) 0) (.slice ra _ rc)).toArray) (results_cell Tryz.results46 rfl hB9 _ Tryz.underlying34 rfl sizeReply) rfl ?_
  have hp9 := pu_of_fr (P2.out.tr (HB3.out.tr HB4.out)) hF9 (by omega)
  exact ⟨_, mp, nb, rfl, SlR.block_kept HS4.out B4 (by decide) (by decide) hF9, H.out.pu hp9, Fr.of_below hp9, fun _ hb => .inl hb⟩


set_option maxHeartbeats 4000000 in
set_option maxRecDepth 100000 in
theorem request_ok {tO : TypeId} (r : Req) (zxid : Int) (v : Value) (w : World) (h : TreeIn w tp mp nb T) (ho : TreeOk T) (hv : SlO tO w v r.ops) (hl : r.ops.length ≤ 1000000) (hp : ∀ o ∈ r.ops, o.path.length ≤ 1000000) (hg : Gl w) (hm : may r = 0) :
    Calls Tryz.prog 46 #[.pointer (some ⟨tp, 0, none⟩), .agg #[.int .i64 r.sess, .int .i64 r.num, v], .int .i64 zxid] w (ReqR w tp mp nb T (multiReq T r zxid)) := by
  have e1 : multiReq T r zxid = ((multiDo T r.sess zxid r.ops).1, { (multiDo T r.sess zxid r.ops).2.1 with num := r.num, zxid := zxid }) := by simp [multiReq, hm]
  rw [e1]
  obtain ⟨a, cap, rfl, hc⟩ := hv.len
  have H := Lib.hid h
  have P2 := Lib.hid ((pu_alloc w (.cells #[.int .i64 r.sess, .int .i64 r.num, .slice a r.ops.length cap] 37)).tr (pu_alloc _ (.cells zeroRep 34)))
  have B1 := Lib.hid (al2a w (.cells #[.int .i64 r.sess, .int .i64 r.num, .slice a r.ops.length cap] 37) (.cells zeroRep 34))
  have B2 := Lib.hid (al2b w (.cells #[.int .i64 r.sess, .int .i64 r.num, .slice a r.ops.length cap] 37) (.cells zeroRep 34))
  have Hv := Lib.hid hv
  have Hp := Lib.hid hp
  have Hg := Lib.hid hg
  have Ho := Lib.hid ho
  have HM := Lib.hid hm
  have htp : tp < w.heap.size := lt_of_blk h.box
  obtain ⟨M, hM⟩ : ∃ M, M = multiDo T r.sess zxid r.ops := ⟨_, rfl⟩
  rw [← hM]
  have HMd := Lib.hid hM
  clear h hv hp hg hm e1 ho hM
  go_enter Tryz.func46, Tryz.ntmps46
  go_wp2_with (first
    | (go_at_call 20; refine (may_any r _ _ (Hv.out.pu P2.out) Hp.out (Hg.out.pu P2.out)).mono ?_; rw [HM.out]; rintro x w3 ⟨rfl, hb3⟩; have R3 := (hb3.block _ (lt_of_blk B1.out)).trans B1.out; have q0 : w3.cell? ⟨w.heap.size, 0, none⟩ = some (.int .i64 r.sess) := cell_of_blk R3; have q2 : w3.cell? ⟨w.heap.size, 2, none⟩ = some (.slice a r.ops.length cap) := cell_of_blk R3; have HR3 := Lib.hid R3; have HB3 := Lib.hid hb3; clear hb3 R3)
    | (go_at_call 48; refine (multi_any r.sess zxid r.ops _ _ (H.out.pu (P2.out.tr HB3.out)) Ho.out (Hv.out.pu (P2.out.tr HB3.out)) hl Hp.out (Hg.out.pu (P2.out.tr HB3.out))).mono ?_; rw [← HMd.out]; rintro x w5 ⟨rv, mp5, nb5, rfl, hs5, ht5, hf5, hF5⟩; obtain ⟨ra, rc, rfl⟩ := hs5.len; have q1 : w5.cell? ⟨w.heap.size, 1, none⟩ = some (.int .i64 r.num) := cell_of_blk ((hf5.keep _ (lt_of_blk HR3.out) (by omega)).trans HR3.out); have hl5 : w.heap.size < w5.heap.size := Nat.lt_of_lt_of_le (lt_of_blk HR3.out) hf5.size; have O5 := Lib.hid ((hf5.keep (w.heap.size + 1) (Nat.lt_of_lt_of_le (lt_of_blk B2.out) HB3.out.size) (by omega)).trans ((HB3.out.block _ (lt_of_blk B2.out)).trans B2.out)); have HS5 := Lib.hid hs5; have HT5 := Lib.hid ht5; have HF5 := Lib.hid hf5; have HFo5 := Lib.hid hF5; clear hs5 ht5 hf5 hF5)
    | (refine wpl_store_whole rfl 34 (.tmp 6) (.tmp 33) rfl (w.heap.size + 1) (repCells { M.2.1 with num := r.num, zxid := zxid } (.slice ra M.2.1.results.length rc)).toArray rfl rfl _ _ (al_old _ _ O5.out) (by rfl) sizeReply (rep_one _ _ _ _) ?_; intro w9 hB9 hF9 hs9))
  refine bodyPost_ret (v := .agg (repCells { M.2.1 with num := r.num, zxid := zxid } (.slice ra M.2.1.results.length rc)).toArray) (results_cell Tryz.results46 rfl hB9 _ Tryz.underlying34 rfl sizeReply) rfl ?_
  have hlt3 := Nat.lt_of_lt_of_le (lt_of_blk B2.out) HB3.out.size
  have O6 := al_old w5 (.cells (repCells { M.2.1 with num := r.num, zxid := zxid } (.slice ra M.2.1.results.length rc)).toArray 34) O5.out
  have hp3 := P2.out.tr HB3.out
  refine ⟨_, mp5, nb5, rfl, SlR.block_kept (HS5.out.pu (pu_alloc _ _)) O6 (by decide) (by decide) hF9, (HT5.out.pu (pu_alloc _ _)).fr hF9 (fun b hb e => ?_) (fun i c fr hi e => ?_), ?_, fun b hb => ?_⟩
  · subst e
    rcases HFo5.out _ hb with h | h
    · have := H.out.lt h; omega
    · omega
  · subst e
    have := O6.symm.trans hi
    simp at this
  · exact (((Fr.of_below (M := fun b => b = tp) hp3).trans HF5.out fun _ _ h => h).trans (Fr.of_below (M := fun _ => False) (pu_alloc _ _)) fun _ _ h => h.elim).trans hF9 fun x hx e => by omega
  · rcases HFo5.out _ hb with h | h
    · exact .inl h
    · exact .inr (Nat.le_trans hp3.size h)


theorem request_any {tO : TypeId} (r : Req) (zxid : Int) (v : Value) (w : World) (h : TreeIn w tp mp nb T) (ho : TreeOk T) (hv : SlO tO w v r.ops) (hl : r.ops.length ≤ 1000000) (hp : ∀ o ∈ r.ops, o.path.length ≤ 1000000) (hg : Gl w) :
    Calls Tryz.prog 46 #[.pointer (some ⟨tp, 0, none⟩), .agg #[.int .i64 r.sess, .int .i64 r.num, v], .int .i64 zxid] w (ReqR w tp mp nb T (multiReq T r zxid)) := by
  by_cases hm : may r = 0
  · exact request_ok r zxid v w h ho hv hl hp hg hm
  · exact request_bad r zxid v w h hv hp hg hm

end Go.Proofs.YtmigbgfgnhkmnaaGreatDoor
