/- Part 7 of a proof in parts: what the code of these packages does, and plain facts about it (Stat, Lock, Op, Reply, Tree, Place, Lay). No condition of its own. -/
import Derived.Test.YtmigbgfgnhkmnaaGreatDoorZx6
import Derived.Deep.RegionWith
import Derived.Deep.RegionHeld3
import Derived.Deep.DrawnRows
import Derived.StillTailTactics
/- Package stat: what each function does. -/
namespace Go.Proofs.YtmigbgfgnhkmnaaGreatDoor
open Go.RowKit Go.Av

attribute [local go_sem ↓] Go.wp_at_zero Go.wp_at_succ

/-- Block b of w is this node. -/
def NodeAt (w : World) (b : Nat) (n : NodeD) : Prop := ∃ nv, w.heap[b]? = some (.cells (n.cells nv).toArray 124 (0, 0)) ∧ SlS 9 w nv n.names

theorem NodeAt.keep {w w' : World} {b : Nat} {n : NodeD} (h : NodeAt w b n) (hb : w'.heap[b]? = w.heap[b]?) (hs : ∀ (i : Nat) (c : Array Value) (fr : Nat × Nat), w.heap[i]? = some (Obj.cells c 9 fr) → w'.heap[i]? = w.heap[i]?) : NodeAt w' b n := by
  obtain ⟨nv, h1, h2⟩ := h
  exact ⟨nv, hb.trans h1, Sl.keep h2 hs⟩
theorem NodeAt.lt {w : World} {b : Nat} {n : NodeD} (h : NodeAt w b n) : b < w.heap.size := by obtain ⟨nv, h1, _⟩ := h; exact lt_of_blk h1
theorem NodeAt.pu {w w' : World} {b : Nat} {n : NodeD} (h : NodeAt w b n) (hp : Pu w w') : NodeAt w' b n := h.keep (hp.block b h.lt) fun i _ _ hi => hp.block i (lt_of_blk hi)

set_option maxHeartbeats 1000000 in
set_option maxRecDepth 100000 in
theorem more_any (n : Int) (w : World) (h0 : 0 ≤ n) (h1 : n ≤ 2147483647) :
    Calls Tryz.prog 165 #[.int .i64 n] w fun e w' => e = .returned (.int .i64 (more n)) ∧ w = w' := by
  go_enter Tryz.func165, Tryz.ntmps165
  go_wp2
  all_goals
    go_ret
    refine ⟨ret_int ?_, rfl⟩
    go_light; grind [more]

set_option maxHeartbeats 1000000 in
set_option maxRecDepth 100000 in
theorem ephemeral_any (b : Nat) (n : NodeD) (w : World) (h : NodeAt w b n) :
    Calls Tryz.prog 179 #[.pointer (some ⟨b, 0, none⟩)] w fun e w' => e = .returned (.bool (n.stat.owner != 0)) ∧ w = w' := by
  obtain ⟨nv, h1, _⟩ := h
  have c4 : w.cell? ⟨b, 4, none⟩ = some (.int .i64 n.stat.owner) := cell_of_blk h1
  clear h1
  go_enter Tryz.func179, Tryz.ntmps179
  go_wp2
  go_ret
  exact ⟨rfl, rfl⟩

set_option maxHeartbeats 1000000 in
set_option maxRecDepth 100000 in
theorem newN_any (zxid owner : Int) (data : Str) (w : World) :
    Calls Tryz.prog 139 #[.int .i64 zxid, .int .i64 owner, .string (mkB data)] w fun e w' => e = .returned (.agg ((newN zxid owner data).cells (.slice none 0 0)).toArray) ∧ Pu w w' := by
  go_enter Tryz.func139, Tryz.ntmps139
  go_wp2
  refine bodyPost_ret (v := .agg ((newN zxid owner data).cells (.slice none 0 0)).toArray) (by simp [results, Tryz.results139, go_sem, newN, NodeD.cells]) rfl ⟨rfl, ?_⟩
  exact pu_alloc _ _

set_option maxHeartbeats 1000000 in
set_option maxRecDepth 100000 in
theorem write_any (b : Nat) (n : NodeD) (zxid : Int) (data : Str) (w : World) (h : NodeAt w b n) (ho : NodeOk n) :
    Calls Tryz.prog 142 #[.pointer (some ⟨b, 0, none⟩), .int .i64 zxid, .string (mkB data)] w fun e w' => e = .returned (.tuple #[]) ∧ NodeAt w' b (writeN n zxid data) ∧ Fr (fun x => x = b) w w' := by
  obtain ⟨nv, h1, h2⟩ := h
  have c0 : w.cell? ⟨b, 0, none⟩ = some (.int .i64 n.stat.made) := cell_of_blk h1
  have c1 : w.cell? ⟨b, 1, none⟩ = some (.int .i64 n.stat.changed) := cell_of_blk h1
  have c2 : w.cell? ⟨b, 2, none⟩ = some (.int .i64 n.stat.version) := cell_of_blk h1
  have c5 : w.cell? ⟨b, 5, none⟩ = some (.int .i64 n.stat.length) := cell_of_blk h1
  have c7 : w.cell? ⟨b, 7, none⟩ = some (.string (mkB n.data)) := cell_of_blk h1
  have hf : ∀ o, w.frozen? ⟨b, o, none⟩ = false := fun o => frozen_of_blk h1
  have v0 := ho.v0
  have v1 := ho.v1
  have H1 := Lib.hid h1; clear h1
  have H2 := Lib.hid h2; clear h2
  clear ho
  go_enter Tryz.func142, Tryz.ntmps142
  go_wp2_with (go_at_call 165; refine (more_any _ _ v0 v1).mono ?_; rintro e w1 ⟨rfl, rfl⟩)
  go_end0
  refine ⟨rfl, ⟨nv, ?_, ?_⟩, ?_⟩
  · have := setCell_blk (setCell_blk (setCell_blk (setCell_blk H1.out 7 (.string (mkB data))) 1 (.int .i64 zxid)) 5 (.int .i64 data.length)) 2 (.int .i64 (more n.stat.version))
    refine this.trans ?_
    simp [writeN, NodeD.cells]
  · refine Sl.keep H2.out fun i c fr hi => ?_
    have hne : i ≠ b := by rintro rfl; rw [H1.out] at hi; simp at hi
    simp only [other_set hne]
  · exact fr_set (fr_set (fr_set (fr_set (Fr.refl _ w) _ _) _ _) _ _) _ _


theorem sizeNode : (Tryz.prog.info? 124).map (·.size) = some 10 := by kernel_rfl
theorem rowNode : ∃ d, Tryz.prog.underlying 124 = some d ∧ d.isRow = true := ⟨_, Tryz.underlying124, rfl⟩

theorem NodeD.one (n : NodeD) (a : Option Addr) (k cap : Nat) : ((n.cells (.slice a k cap)).toArray.all fun x => x.oneCell') = true := by simp [NodeD.cells, Value.oneCell']

/-- A node's value: a new one, the same. -/
def CopyR (n : NodeD) (w : World) (e : Ending) (w' : World) : Prop := ∃ nv, e = .returned (.agg (n.cells nv).toArray) ∧ SlS 9 w' nv n.names ∧ Pu w w'

set_option maxHeartbeats 1000000 in
set_option maxRecDepth 100000 in
theorem copied_any (n : NodeD) (nv : Value) (w : World) (h : SlS 9 w nv n.names) (hl : n.names.length ≤ 100000) :
    Calls Tryz.prog 93 #[.agg (n.cells nv).toArray] w (CopyR n w) := by
  have H := Lib.hid h; clear h
  go_enter Tryz.func93, Tryz.ntmps93
  go_wp2_with fail
  refine (clone_any n.names _ _ ((H.out.pu (pu_alloc _ _)).pu (pu_alloc _ _)) (by omega)).mono ?_
  rintro e w1 ⟨v, rfl, hv, hb1⟩
  have hs := SlS.of_own hv
  obtain ⟨a, cap, rfl⟩ := hs.len
  have Hs := Lib.hid hs
  have hlt1 : w.heap.size + 1 < w1.heap.size := by have := hb1.size; simp at this; omega
  have B1 := (hb1.block w.heap.size (by simp; omega)).trans (al2a w _ _)
  have B2 := (hb1.block (w.heap.size + 1) (by simp)).trans (al2b w _ _)
  have d9 : w1.cell? ⟨w.heap.size, 9, none⟩ = some nv := cell_of_blk B1
  have f9 : w1.frozen? ⟨w.heap.size, 9, none⟩ = false := frozen_of_blk B1
  have hP : Pu w w1 := ((pu_alloc _ _).tr (pu_alloc _ _)).tr hb1
  have HB1 := Lib.hid B1
  have HB2 := Lib.hid B2
  have HP := Lib.hid hP
  have q := fun o => cell_of_blk (o := o) B1
  clear hs hv hP B1 B2 hb1
  go_wp2_with ((refine wpl_store_whole rfl 124 (.tmp 2) (.tmp 7) rfl (w.heap.size + 1) (n.cells (.slice a n.names.length cap)).toArray rfl rfl _ _ ((other_set (b := w.heap.size) (i := w.heap.size + 1) (by omega) 9 _).trans HB2.out) (by rfl) sizeNode (NodeD.one _ _ _ _) ?_); intro w2 hB2 hFr hsz)
  refine bodyPost_ret (v := .agg (n.cells (.slice a n.names.length cap)).toArray) (results_cell Tryz.results93 rfl hB2 _ Tryz.underlying124 rfl sizeNode) rfl ⟨_, rfl, ?_, ?_⟩
  · exact (Hs.out.fr HB1.out (by decide) (fr_set (Fr.refl _ w1) 9 _)).fr ((other_set (b := w.heap.size) (i := w.heap.size + 1) (by omega) 9 _).trans HB2.out) (by decide) hFr
  · exact pu_of_fr (pu_set HP.out (Nat.le_refl _) _ _) hFr (by omega)


theorem own_pu {w w' : World} {B : Nat} {e : TypeId} {sz n : Nat} {v : Value} {xs : List Value} (h : w.ownsRow B e sz v n xs) (hp : Pu w w') : w'.ownsRow B e sz v n xs := by
  rcases h with ⟨h1, ⟨rfl, hn⟩ | ⟨g, cap, cur, rfl, hBg, hg, r⟩⟩
  · exact ⟨h1, .inl ⟨rfl, hn⟩⟩
  · exact ⟨h1, .inr ⟨g, cap, cur, rfl, hBg, (hp.block g (lt_of_blk hg)).trans hg, r⟩⟩
theorem own_lt {w : World} {B : Nat} {e : TypeId} {sz n : Nat} {v : Value} {xs : List Value} (h : w.ownsRow B e sz v n xs) : ∀ k, v.ownBlock = some k → k < w.heap.size := by
  rcases h with ⟨h1, ⟨rfl, hn⟩ | ⟨g, cap, cur, rfl, hBg, hg, r⟩⟩
  · intro k hk; cases hk
  · intro k hk; cases hk; exact lt_of_blk hg
theorem Below.pu {B : Nat} {w w' : World} (h : Below B w w') (hB : w.heap.size = B) : Pu w w' := by subst hB; exact h

theorem Fr.below {M : Nat → Prop} {a w w' : World} {B : Nat} (h : Fr M a w) (k : Below B w w') (hB : a.heap.size ≤ B) : Fr M a w' :=
  ⟨k.os.trans h.os, k.tape.trans h.tape, k.output.trans h.output, Nat.le_trans h.size k.size, fun x hx hn => (k.block x (Nat.lt_of_lt_of_le hx hB)).trans (h.keep x hx hn)⟩
theorem al_old' (w : World) (a : Obj) {k : Nat} (h : k < w.heap.size) : (w.alloc a).heap[k]? = w.heap[k]? := Below.heap_alloc _ _ _ h

theorem len_ins (x : Str) (l : List Str) : (insS x l).length = l.length + 1 := by
  have := rank_le x l
  simp [insS]; omega

set_option maxHeartbeats 2000000 in
set_option maxRecDepth 100000 in
theorem add_new (b : Nat) (n : NodeD) (x : Str) (w : World) (h : NodeAt w b n) (ho : NodeOk n) (hx : x ∉ n.names) :
    Calls Tryz.prog 180 #[.pointer (some ⟨b, 0, none⟩), .string (mkB x)] w fun e w' => e = .returned (.bool true) ∧ NodeAt w' b (addN n x) ∧ Fr (fun x => x = b) w w' := by
  obtain ⟨nv, h1, h2⟩ := h
  have hb := lt_of_blk h1
  have c9 : w.cell? ⟨b, 9, none⟩ = some nv := cell_of_blk h1
  have H1 := Lib.hid h1; clear h1
  have H2 := Lib.hid h2; clear h2
  have hm := ho.many
  have hr := ho.rise
  have k0 := ho.k0
  have k1 := ho.k1
  have n0 := ho.n0
  have n1 := ho.n1
  clear ho
  go_enter Tryz.func180, Tryz.ntmps180
  go_wp2_with (go_at_call 163; refine (bs_any n.names x _ _ H2.out hr (by omega)).mono ?_; rintro e w1 ⟨rfl, hb1⟩; rw [decide_eq_false hx]; have d9 : w1.cell? ⟨b, 9, none⟩ = some nv := ((bcell hb1).1 b 9 hb).trans c9; have hb1' : b < w1.heap.size := Nat.lt_of_lt_of_le hb hb1.size; have G1 := Lib.hid hb1; clear hb1)
  have S1 := Lib.hid (H2.out.pu G1.out)
  refine (clone_any n.names _ _ S1.out (by omega)).mono ?_
  rintro e w2 ⟨v, rfl, hv, hb2⟩
  have hlt2 : b < w2.heap.size := Nat.lt_of_lt_of_le hb1' hb2.size
  have hm2 := hb2.size
  have hne := own_lt hv
  have V := Lib.hid hv; clear hv
  have G2 := Lib.hid hb2; clear hb2
  go_wp2_with fail
  refine (insert_any n.names (rank x n.names) x v w1.heap.size w2.heap.size _ (rank_le x _) (by omega) (own_pu V.out (pu_alloc _ _)) (by simp; omega) (al1 _ _) (fun hq => absurd (hne _ hq) (by omega))).mono ?_
  rintro e w3 ⟨v3, rfl, hv3, hb3⟩
  have G3 : Hid (Fr (fun x => x = b) w w3) := Lib.hid (Fr.below (Fr.below (Fr.below (Fr.below (Fr.refl _ w) G1.out (Nat.le_refl _)) G2.out G1.out.size) (pu_alloc _ _) (by have := G1.out.size; omega)) hb3 G1.out.size)
  have hb3' : b < w3.heap.size := by have := hb3.size; simp at this; omega
  have d3 : w3.heap[b]? = w.heap[b]? := (hb3.block b hb1').trans ((al_old' _ _ hlt2).trans ((G2.out.block b hb1').trans (G1.out.block b hb)))
  have q := H1.out
  rw [← d3] at q
  have e2 : w3.cell? ⟨b, 2, none⟩ = some (.int .i64 n.stat.version) := cell_of_blk q
  have e3 : w3.cell? ⟨b, 3, none⟩ = some (.int .i64 n.stat.kids) := cell_of_blk q
  have e6 : w3.cell? ⟨b, 6, none⟩ = some (.int .i64 n.stat.count) := cell_of_blk q
  have e8 : w3.cell? ⟨b, 8, none⟩ = some (.int .i64 n.next) := cell_of_blk q
  have e9 : w3.cell? ⟨b, 9, none⟩ = some nv := cell_of_blk q
  have hf : ∀ o, w3.frozen? ⟨b, o, none⟩ = false := fun o => frozen_of_blk q
  replace hv3 : SlS 9 w3 v3 (insS x n.names) := hv3
  obtain ⟨a3, cap3, rfl⟩ := hv3.len
  have Q := Lib.hid q
  have V3 := Lib.hid hv3
  clear hv3 q hb3 d3
  go_wp2_with fail
  go_region_with (go_at_call 165; (first | refine (more_any n.stat.kids _ k0 k1).mono ?_ | refine (more_any n.next _ n0 n1).mono ?_); rintro e w4 ⟨rfl, rfl⟩)
  all_goals
    go_wp2_with fail
    go_ret
    have K : (((((w3.setCell ⟨b, 9, none⟩ (.slice a3 (insS x n.names).length cap3)).setCell ⟨b, 6, none⟩ (.int .i64 (insS x n.names).length)).setCell ⟨b, 3, none⟩ (.int .i64 (more n.stat.kids))).setCell ⟨b, 8, none⟩ (.int .i64 (more n.next)))).heap[b]? = some (.cells ((addN n x).cells (.slice a3 (insS x n.names).length cap3)).toArray 124 (0, 0)) := by
      refine (setCell_blk (setCell_blk (setCell_blk (setCell_blk Q.out 9 _) 6 _) 3 _) 8 _).trans ?_
      simp [addN, hx, NodeD.cells]
    have F : Fr (fun x => x = b) w3 ((((w3.setCell ⟨b, 9, none⟩ (.slice a3 (insS x n.names).length cap3)).setCell ⟨b, 6, none⟩ (.int .i64 (insS x n.names).length)).setCell ⟨b, 3, none⟩ (.int .i64 (more n.stat.kids))).setCell ⟨b, 8, none⟩ (.int .i64 (more n.next))) := fr_set (fr_set (fr_set (fr_set (Fr.refl _ _) _ _) _ _) _ _) _ _
    refine ⟨rfl, ⟨.slice a3 (insS x n.names).length cap3, K, ?_⟩, (G3.out.trans F fun _ _ h => h).drew⟩
    have := V3.out.fr Q.out (by decide) F
    have e : (addN n x).names = insS x n.names := by simp [addN, hx]
    rw [e]; exact this


set_option maxHeartbeats 1000000 in
set_option maxRecDepth 100000 in
theorem add_old (b : Nat) (n : NodeD) (x : Str) (w : World) (h : NodeAt w b n) (ho : NodeOk n) (hx : x ∈ n.names) :
    Calls Tryz.prog 180 #[.pointer (some ⟨b, 0, none⟩), .string (mkB x)] w fun e w' => e = .returned (.bool false) ∧ Pu w w' := by
  obtain ⟨nv, h1, h2⟩ := h
  have c9 : w.cell? ⟨b, 9, none⟩ = some nv := cell_of_blk h1
  clear h1
  have H2 := Lib.hid h2; clear h2
  have hm := ho.many
  have hr := ho.rise
  clear ho
  go_enter Tryz.func180, Tryz.ntmps180
  go_wp2_with (go_at_call 163; refine (bs_any n.names x _ _ H2.out hr (by omega)).mono ?_; rintro e w1 ⟨rfl, hb1⟩; rw [decide_eq_true hx])
  go_ret
  exact ⟨rfl, hb1⟩

set_option maxHeartbeats 1000000 in
set_option maxRecDepth 100000 in
theorem remove_none (b : Nat) (n : NodeD) (x : Str) (w : World) (h : NodeAt w b n) (ho : NodeOk n) (hx : x ∉ n.names) :
    Calls Tryz.prog 131 #[.pointer (some ⟨b, 0, none⟩), .string (mkB x)] w fun e w' => e = .returned (.bool false) ∧ Pu w w' := by
  obtain ⟨nv, h1, h2⟩ := h
  have c9 : w.cell? ⟨b, 9, none⟩ = some nv := cell_of_blk h1
  clear h1
  have H2 := Lib.hid h2; clear h2
  have hm := ho.many
  have hr := ho.rise
  clear ho
  go_enter Tryz.func131, Tryz.ntmps131
  go_wp2_with (go_at_call 163; refine (bs_any n.names x _ _ H2.out hr (by omega)).mono ?_; rintro e w1 ⟨rfl, hb1⟩; rw [decide_eq_false hx])
  go_ret
  exact ⟨rfl, hb1⟩

set_option maxHeartbeats 2000000 in
set_option maxRecDepth 100000 in
theorem remove_old (b : Nat) (n : NodeD) (x : Str) (w : World) (h : NodeAt w b n) (ho : NodeOk n) (hx : x ∈ n.names) :
    Calls Tryz.prog 131 #[.pointer (some ⟨b, 0, none⟩), .string (mkB x)] w fun e w' => e = .returned (.bool true) ∧ NodeAt w' b (removeN n x) ∧ Fr (fun x => x = b) w w' := by
  obtain ⟨nv, h1, h2⟩ := h
  have hb := lt_of_blk h1
  have c9 : w.cell? ⟨b, 9, none⟩ = some nv := cell_of_blk h1
  have H1 := Lib.hid h1; clear h1
  have H2 := Lib.hid h2; clear h2
  have hm := ho.many
  have hr := ho.rise
  have k0 := ho.k0
  have k1 := ho.k1
  obtain ⟨hlt, _⟩ := (mem_rank hr x).1 hx
  clear ho
  go_enter Tryz.func131, Tryz.ntmps131
  go_wp2_with (go_at_call 163; refine (bs_any n.names x _ _ H2.out hr (by omega)).mono ?_; rintro e w1 ⟨rfl, hb1⟩; rw [decide_eq_true hx]; have d9 : w1.cell? ⟨b, 9, none⟩ = some nv := ((bcell hb1).1 b 9 hb).trans c9; have hb1' : b < w1.heap.size := Nat.lt_of_lt_of_le hb hb1.size; have G1 := Lib.hid hb1; clear hb1)
  have S1 := Lib.hid (H2.out.pu G1.out)
  refine (clone_any n.names _ _ S1.out (by omega)).mono ?_
  rintro e w2 ⟨v, rfl, hv, hb2⟩
  have hlt2 : b < w2.heap.size := Nat.lt_of_lt_of_le hb1' hb2.size
  have hm2 := hb2.size
  have V := Lib.hid hv; clear hv
  have G2 := Lib.hid hb2; clear hb2
  go_wp2_with fail
  refine (delete_any n.names (rank x n.names) v w1.heap.size _ hlt (by omega) V.out).mono ?_
  rintro e w3 ⟨v3, rfl, hv3, hb3⟩
  have G3 : Hid (Fr (fun x => x = b) w w3) := Lib.hid (Fr.below (Fr.below (Fr.below (Fr.refl _ w) G1.out (Nat.le_refl _)) G2.out G1.out.size) hb3 G1.out.size)
  have hb3' : b < w3.heap.size := by have := hb3.size; omega
  have d3 : w3.heap[b]? = w.heap[b]? := (hb3.block b hb1').trans ((G2.out.block b hb1').trans (G1.out.block b hb))
  have q := H1.out
  rw [← d3] at q
  have e3 : w3.cell? ⟨b, 3, none⟩ = some (.int .i64 n.stat.kids) := cell_of_blk q
  have e6 : w3.cell? ⟨b, 6, none⟩ = some (.int .i64 n.stat.count) := cell_of_blk q
  have e9 : w3.cell? ⟨b, 9, none⟩ = some nv := cell_of_blk q
  have hf : ∀ o, w3.frozen? ⟨b, o, none⟩ = false := fun o => frozen_of_blk q
  replace hv3 : SlS 9 w3 v3 (delS x n.names) := hv3
  obtain ⟨a3, cap3, rfl⟩ := hv3.len
  have Q := Lib.hid q
  have V3 := Lib.hid hv3
  clear hv3 q hb3 d3
  go_wp2_with (go_at_call 165; refine (more_any n.stat.kids _ k0 k1).mono ?_; rintro e w4 ⟨rfl, rfl⟩)
  go_ret
  have K : ((((w3.setCell ⟨b, 9, none⟩ (.slice a3 (delS x n.names).length cap3)).setCell ⟨b, 6, none⟩ (.int .i64 (delS x n.names).length)).setCell ⟨b, 3, none⟩ (.int .i64 (more n.stat.kids)))).heap[b]? = some (.cells ((removeN n x).cells (.slice a3 (delS x n.names).length cap3)).toArray 124 (0, 0)) := by
    refine (setCell_blk (setCell_blk (setCell_blk Q.out 9 _) 6 _) 3 _).trans ?_
    simp [removeN, hx, NodeD.cells]
  have F : Fr (fun x => x = b) w3 (((w3.setCell ⟨b, 9, none⟩ (.slice a3 (delS x n.names).length cap3)).setCell ⟨b, 6, none⟩ (.int .i64 (delS x n.names).length)).setCell ⟨b, 3, none⟩ (.int .i64 (more n.stat.kids))) := fr_set (fr_set (fr_set (Fr.refl _ _) _ _) _ _) _ _
  refine ⟨rfl, ⟨.slice a3 (delS x n.names).length cap3, K, ?_⟩, (G3.out.trans F fun _ _ h => h)⟩
  have := V3.out.fr Q.out (by decide) F
  have e : (removeN n x).names = delS x n.names := by simp [removeN, hx]
  rw [e]; exact this

end Go.Proofs.YtmigbgfgnhkmnaaGreatDoor

/- Package lock: what each function does. -/
namespace Go.Proofs.YtmigbgfgnhkmnaaGreatDoor
open Go.RowKit Go.Av

attribute [local go_sem ↓] Go.wp_at_zero Go.wp_at_succ
attribute [local go_sem] run_makeMap

/-- A map from string to int64. -/
def fI (K : Type) (_ : K) (x : Int) : Value := .int .i64 x
abbrev TS : KeyT Tryz.prog 9 Str (fun s => s.length ≤ maxLen) := keyT_str Tryz.underlying9

theorem cell_ne_map {P : Program} {kt : TypeId} {K V : Type} [DecidableEq K] [Key K] {f : K → V → Value} {l : List (K × V)} {w : World} {b o mb : Nat} {v : Value} (h : w.cell? ⟨b, o, none⟩ = some v) (k : MapV P kt w f mb l) : b ≠ mb := by
  rintro rfl
  obtain ⟨es, c, h1⟩ := k.isMap
  simp [World.cell?, h1] at h

/-- Block lb of w is these locks, held in the map in block mb. -/
structure LocksAt (w : World) (lb mb : Nat) (L : LocksD) : Prop where
  box : w.heap[lb]? = some (.cells #[.map (some mb)] 152 (0, 0))
  map : MapV Tryz.prog 9 w (fI Str) mb L

theorem LocksAt.ne {w : World} {lb mb : Nat} {L : LocksD} (h : LocksAt w lb mb L) : lb ≠ mb := by
  rintro rfl
  obtain ⟨es, c, h1⟩ := h.map.isMap
  rw [h.box] at h1; cases h1
theorem LocksAt.pu {w w' : World} {lb mb : Nat} {L : LocksD} (h : LocksAt w lb mb L) (hp : Pu w w') : LocksAt w' lb mb L := ⟨(hp.block lb (lt_of_blk h.box)).trans h.box, h.map.pu hp⟩
theorem LocksAt.fr {M : Nat → Prop} {w w' : World} {lb mb : Nat} {L : LocksD} (h : LocksAt w lb mb L) (hp : Fr M w w') (h1 : ¬ M lb) (h2 : ¬ M mb) : LocksAt w' lb mb L := ⟨(hp.keep lb (lt_of_blk h.box) h1).trans h.box, h.map.fr hp h2⟩

set_option maxHeartbeats 1000000 in
set_option maxRecDepth 100000 in
theorem locksLen_any (lb mb : Nat) (L : LocksD) (w : World) (h : LocksAt w lb mb L) :
    Calls Tryz.prog 59 #[.pointer (some ⟨lb, 0, none⟩)] w fun e w' => e = .returned (.int .i64 L.length) ∧ w = w' := by
  have c0 : w.cell? ⟨lb, 0, none⟩ = some (.map (some mb)) := cell_of_blk h.box
  have hl := fun ty => h.map.len Tryz.underlying150 ty
  clear h
  go_enter Tryz.func59, Tryz.ntmps59
  go_wp2
  go_ret
  exact ⟨rfl, rfl⟩

set_option maxHeartbeats 1000000 in
set_option maxRecDepth 100000 in
theorem locksNew_any (w : World) :
    Calls Tryz.prog 43 #[] w fun e w' => e = .returned (.pointer (some ⟨w.heap.size + 1, 0, none⟩)) ∧ LocksAt w' (w.heap.size + 1) w.heap.size [] ∧ Pu w w' := by
  go_enter Tryz.func43, Tryz.ntmps43
  go_wp2
  go_ret
  refine ⟨rfl, ⟨?_, ?_⟩, (pu_alloc _ _).tr (pu_alloc _ _)⟩
  · exact al2b w _ _
  · exact (MapV.made w (fI Str)).pu (pu_alloc _ _)

set_option maxHeartbeats 1000000 in
set_option maxRecDepth 100000 in
theorem blocks_any (lb mb : Nat) (L : LocksD) (who : Int) (p : Str) (w : World) (h : LocksAt w lb mb L) (ho : LocksOk L) (hp : p.length ≤ 1000000) (hg : Gl w) :
    Calls Tryz.prog 91 #[.pointer (some ⟨lb, 0, none⟩), .int .i64 who, .string (mkB p)] w fun e w' => e = .returned (.bool (blocksB L who p)) ∧ Pu w w' := by
  have c0 : w.cell? ⟨lb, 0, none⟩ = some (.map (some mb)) := cell_of_blk h.box
  have hlt := lt_of_blk h.box
  have H := Lib.hid h; clear h
  have Hg := Lib.hid hg; clear hg
  have Ho := Lib.hid ho; clear ho
  cases hgp : good p
  · have e : blocksB L who p = false := by simp [blocksB, hgp]
    rw [e]
    have Hgp := Lib.hid hgp; clear hgp
    go_enter Tryz.func91, Tryz.ntmps91
    go_wp2_with (go_at_call 125; refine (good_any _ _ (by omega) Hg.out).mono ?_; rw [Hgp.out]; rintro e w1 ⟨rfl, hb1⟩)
    go_ret
    exact ⟨rfl, hb1⟩
  · have e : blocksB L who p = L.any fun x => !(x.2 == who) && hits p x.1 := by simp [blocksB, hgp]
    rw [e]
    have Hgp := Lib.hid hgp; clear hgp e
    go_enter Tryz.func91, Tryz.ntmps91
    go_wp2_with (go_at_call 125; refine (good_any _ _ (by omega) Hg.out).mono ?_; rw [Hgp.out]; rintro e w1 ⟨rfl, hb1⟩; have HB1 := Lib.hid hb1; have d0 : w1.cell? ⟨lb, 0, none⟩ = some (.map (some mb)) := ((bcell hb1).1 lb 0 hlt).trans c0; have hlt1 := Nat.lt_of_lt_of_le hlt hb1.size; clear hb1)
    refine (parent_any _ _ (by omega) (Hg.out.pu HB1.out)).mono ?_
    rintro e w2 ⟨rfl, hb2⟩
    have hm2 := (H.out.map.pu HB1.out).pu hb2
    obtain ⟨w3, left, hrun, hit, hall, hp3, hs3⟩ := hm2.range TS Tryz.underlying150
    obtain ⟨u, hu⟩ : ∃ u, u = (parent p).getD [] := ⟨_, rfl⟩
    obtain ⟨b, hbb⟩ : ∃ b, parentV (parent p) = .tuple #[.string (mkB u), .bool b] := by
      rw [hu]; cases parent p <;> exact ⟨_, rfl⟩
    rw [hbb]
    have d1 : w2.cell? ⟨lb, 0, none⟩ = some (.map (some mb)) := ((bcell hb2).1 lb 0 hlt1).trans d0
    have P3 : Hid (Pu w w3) := Lib.hid ((HB1.out.tr hb2).tr hp3)
    have G3 := Lib.hid (Hg.out.pu P3.out)
    have It := Lib.hid hit
    have Hall := Lib.hid hall
    have Hu := Lib.hid hu
    have hrw : w.heap.size ≤ w2.heap.size := Nat.le_trans HB1.out.size hb2.size
    clear hm2 hit hall hu hbb hp3 hb2 d0
    obtain ⟨r, hr⟩ : ∃ r, r = w2.heap.size := ⟨_, rfl⟩
    rw [← hr] at hrun It hrw
    have Hr := Lib.hid hr; clear hr
    go_wp2
    go_loopw [] (fun wr => ∃ left cnt, Hid (Iter Tryz.prog 9 wr (fI Str) mb r L left cnt) ∧ Hid (Pu w wr) ∧ Hid (∀ x ∈ L, left (Key.lit x.1) = false → (!(x.2 == who) && hits p x.1) = false)) (fun wr => wr.rangeLeft mb r)
    case atStart => exact ⟨left, _, It, P3, Lib.hid fun x hx hl => by rw [Hall.out x hx] at hl; cases hl⟩
    case round =>
      obtain ⟨left', cnt, It', P', A'⟩ := hrel
      rcases It'.out.next TS 0 with ⟨h0, hd, hn⟩ | ⟨k, v, w5, cnt', hkv, hlk, hn, it5, hlt5, hf5, hs5, hen⟩
      · go_wp2
        go_ret
        refine ⟨ret_bool ?_, P'.out⟩
        symm
        rw [List.any_eq_false]
        intro x hx
        have := A'.out x hx (hd _)
        simp [this]
      · have P5 : Hid (Pu w w5) := Lib.hid (pu_of_fr P'.out hf5 hrw)
        replace hn : (Instr.next (.pointer (some ⟨r, 0, none⟩)) false 0).run Tryz.prog wr = .ok (.tuple #[.bool true, .string (mkB k), .int .i64 v]) w5 := hn
        replace hen : (Instr.entry (.pointer (some ⟨r, 0, none⟩))).run Tryz.prog w5 = .ok (.tuple #[.string (mkB k), .int .i64 v]) w5 := hen
        have hk : k.length ≤ 200 := good_len (Ho.out.good _ hkv)
        have G5 := Lib.hid (Hg.out.pu P5.out)
        obtain ⟨q1, hq1⟩ : ∃ q1, q1 = (parent k).getD [] := ⟨_, rfl⟩
        obtain ⟨b1, hb1⟩ : ∃ b1, b1 = (parent k).isSome := ⟨_, rfl⟩
        have hbb : parentV (parent k) = .tuple #[.string (mkB q1), .bool b1] := by
          rw [hq1, hb1]; cases parent k <;> rfl
        have Hx : Hid (hits p k = (k == p || (k == u || (b1 && q1 == p)))) := Lib.hid (by rw [hits, ← Hu.out, ← hb1, ← hq1])
        have HN := Lib.hid hkv
        have HL := Lib.hid hlk
        have I5 := Lib.hid it5
        have hcnt := It'.out.left_eq
        have C5 := Lib.hid hcnt
        have Hbb := Lib.hid hbb
        clear hkv hlk it5 hf5 hq1 hb1 hcnt hbb
        have step : ∀ w6, Pu w5 w6 → (!(v == who) && hits p k) = false → ∃ left cnt, Hid (Iter Tryz.prog 9 w6 (fI Str) mb r L left cnt) ∧ Hid (Pu w w6) ∧ Hid (∀ x ∈ L, left (Key.lit x.1) = false → (!(x.2 == who) && hits p x.1) = false) := fun w6 h6 hz => by
          refine ⟨_, cnt', Lib.hid (I5.out.fr (M := fun _ => False) (Fr.of_below h6) (fun x => x) (fun x => x)), Lib.hid (P5.out.tr h6), Lib.hid fun x hx hl => ?_⟩
          simp only [Bool.and_eq_false_iff, Bool.not_eq_false'] at hl
          rcases hl with hl | hl
          · exact A'.out x hx hl
          · rw [Key.same_lit] at hl
            have := sorted_inj Ho.out.rise hx HN.out (by simpa using hl)
            rw [this]; exact hz
        have meas : ∀ w6, Pu w5 w6 → w6.rangeLeft mb r < wr.rangeLeft mb r := fun w6 h6 => by
          have := (I5.out.fr (M := fun _ => False) (Fr.of_below h6) (fun x => x) (fun x => x)).left_eq
          rw [this, C5.out]; exact hlt5
        have hne : w5.heap.size = wr.heap.size := hs5
        by_cases hw : v = who
        · subst hw
          go_wp2
          go_roundw
          case rel => exact step w5 (Below.refl _ _) (by simp)
          case measure => exact meas w5 (Below.refl _ _)
        · go_wp2_with (go_at_call 95; refine (parent_any _ _ (by omega) G5.out).mono ?_; rintro e w6 ⟨rfl, hb6⟩; rw [Hbb.out]; have H6 := Lib.hid hb6; clear hb6)
          all_goals
            have hx := Hx.out
            first
              | (go_ret
                 refine ⟨ret_bool ?_, P5.out.tr H6.out⟩
                 symm
                 rw [List.any_eq_true]
                 exact ⟨(k, v), HN.out, by grind⟩)
              | (go_roundw
                 case rel => exact step w6 H6.out (by grind)
                 case measure => exact meas w6 H6.out)

set_option maxHeartbeats 1000000 in
set_option maxRecDepth 100000 in
theorem wrong_any (lb mb : Nat) (L : LocksD) (who : Int) (l : List Str) (v : Value) (w : World) (h : LocksAt w lb mb L) (ho : LocksOk L) (hv : SlS 9 w v l) (hl : ∀ p ∈ l, p.length ≤ 1000000) (hn : l.length ≤ 1000000) (hg : Gl w) :
    Calls Tryz.prog 94 #[.pointer (some ⟨lb, 0, none⟩), .int .i64 who, v] w fun e w' => e = .returned (parentV (wrongP L who l)) ∧ Pu w w' := by
  have H := Lib.hid h; clear h
  have Hg := Lib.hid hg; clear hg
  have Ho := Lib.hid ho; clear ho
  have Hl := Lib.hid hl; clear hl
  by_cases h0 : 0 < l.length
  · obtain ⟨b, off, cap, rfl, h2, h3, h4⟩ := hv.pos h0
    have H4 := Lib.hid h4; clear h4 hv
    go_enter Tryz.func94, Tryz.ntmps94
    go_wp2
    go_loopw [14] (fun i wr => ∃ k : Nat, k ≤ l.length ∧ i = .int .i64 k ∧ Pu w wr ∧ Hid ((l.take k).find? (fun p => !good p) = none)) (fun i _ => l.length - (intOf i).toNat)
    case atStart => exact ⟨0, Nat.zero_le _, rfl, Below.refl _ _, Lib.hid (by simp)⟩
    case round =>
      obtain ⟨k, hk, rfl, hb, Ha⟩ := hrel
      by_cases hlt : k < l.length
      · obtain ⟨p, hp⟩ : ∃ p, p = l[k] := ⟨_, rfl⟩
        have hpl : p.length ≤ 1000000 := by rw [hp]; exact Hl.out _ (List.getElem_mem hlt)
        have c0 := (bcell hb).1 b (off + k) h3
        rw [H4.out k hlt, ← hp] at c0
        have G1 := Lib.hid (Hg.out.pu hb)
        have Hp := Lib.hid hp; clear hp
        have HB := Lib.hid hb; clear hb
        cases hgp : good p
        all_goals
          have Hgp := Lib.hid hgp; clear hgp
          go_wp2_with (go_at_call 125; refine (good_any p _ (by omega) G1.out).mono ?_; rw [Hgp.out]; rintro e w1 ⟨rfl, hb1⟩)
        · go_ret2
          refine ⟨?_, HB.out.tr hb1⟩
          have e1 : wrongP L who l = some p := by
            have : l.find? (fun p => !good p) = some p := by
              rw [← List.take_append_drop k l, List.find?_append, Ha.out, List.drop_eq_getElem_cons hlt, ← Hp.out]
              simp [Hgp.out]
            rw [wrongP, this]; rfl
          rw [e1]; rfl
        · go_roundw
          case rel => exact ⟨k + 1, by omega, by go_num, HB.out.tr hb1, Lib.hid (by rw [List.take_succ_eq_append_getElem hlt, List.find?_append, Ha.out, ← Hp.out]; simp [Hgp.out])⟩
          case measure => simp [intOf]; omega
      · have hk' : k = l.length := by omega
        have Ha' := Ha.out
        rw [hk', List.take_length] at Ha'
        have HA := Lib.hid Ha'
        clear Ha' Ha
        go_wp2
        go_loopw [25] (fun i wr => ∃ k : Nat, k ≤ l.length ∧ i = .int .i64 k ∧ Pu w wr ∧ Hid ((l.take k).find? (fun p => blocksB L who p) = none)) (fun i _ => l.length - (intOf i).toNat)
        case atStart => exact ⟨0, Nat.zero_le _, rfl, hb, Lib.hid (by simp)⟩
        case round =>
          clear hlt hk' hk
          obtain ⟨k, hk, rfl, hb, Ha⟩ := hrel
          by_cases hlt : k < l.length
          · obtain ⟨p, hp⟩ : ∃ p, p = l[k] := ⟨_, rfl⟩
            have hpl : p.length ≤ 1000000 := by rw [hp]; exact Hl.out _ (List.getElem_mem hlt)
            have c0 := (bcell hb).1 b (off + k) h3
            rw [H4.out k hlt, ← hp] at c0
            have G1 := Lib.hid (Hg.out.pu hb)
            have K1 := Lib.hid (H.out.pu hb)
            have Hp := Lib.hid hp; clear hp
            have HB := Lib.hid hb; clear hb
            cases hgp : blocksB L who p
            all_goals
              have Hgp := Lib.hid hgp; clear hgp
              go_wp2_with (go_at_call 91; refine (blocks_any lb mb L who p _ K1.out Ho.out hpl G1.out).mono ?_; rw [Hgp.out]; rintro e w1 ⟨rfl, hb1⟩)
            · go_roundw
              case rel => exact ⟨k + 1, by omega, by go_num, HB.out.tr hb1, Lib.hid (by rw [List.take_succ_eq_append_getElem hlt, List.find?_append, Ha.out, ← Hp.out]; simp [Hgp.out])⟩
              case measure => simp [intOf]; omega
            · go_ret2
              refine ⟨?_, HB.out.tr hb1⟩
              have e1 : wrongP L who l = some p := by
                have : l.find? (fun p => blocksB L who p) = some p := by
                  rw [← List.take_append_drop k l, List.find?_append, Ha.out, List.drop_eq_getElem_cons hlt, ← Hp.out]
                  simp [Hgp.out]
                rw [wrongP, HA.out, this]; rfl
              rw [e1]; rfl
          · have hk' : k = l.length := by omega
            have Ha' := Ha.out
            rw [hk', List.take_length] at Ha'
            have HA2 := Lib.hid Ha'
            clear Ha' Ha
            go_wp2
            go_ret2
            refine ⟨?_, hb⟩
            have e1 : wrongP L who l = none := by rw [wrongP, HA.out, HA2.out]; rfl
            rw [e1]; rfl
  · obtain rfl : l = [] := List.length_eq_zero_iff.1 (by omega)
    obtain ⟨a, cap, rfl, _⟩ := hv.zero
    go_enter Tryz.func94, Tryz.ntmps94
    go_wp2
    refine wp_loop_rounds 1 ?_; rw [rounds_succ]
    go_wp2
    refine wp_loop_rounds 1 ?_; rw [rounds_succ]
    go_wp2
    go_ret2
    exact ⟨rfl, Below.refl _ _⟩

/-- What Take leaves. -/
def TakeR (w : World) (lb mb : Nat) (L : LocksD) (who : Int) (l : List Str) (e : Ending) (w' : World) : Prop :=
  match wrongP L who l with
  | some p => e = .returned (.tuple #[.string (mkB p), .bool false]) ∧ Pu w w'
  | none => e = .returned (.tuple #[.string (mkB []), .bool true]) ∧ LocksAt w' lb mb (takeL L who l) ∧ Fr (fun b => b = mb) w w'

set_option maxHeartbeats 2000000 in
set_option maxRecDepth 100000 in
theorem take_any (lb mb : Nat) (L : LocksD) (who : Int) (l : List Str) (v : Value) (w : World) (h : LocksAt w lb mb L) (ho : LocksOk L) (hv : SlS 9 w v l) (hl : ∀ p ∈ l, p.length ≤ 1000000) (hn : L.length + l.length ≤ 1000000) (hg : Gl w) :
    Calls Tryz.prog 50 #[.pointer (some ⟨lb, 0, none⟩), .int .i64 who, v] w (TakeR w lb mb L who l) := by
  have H := Lib.hid h; clear h
  have Hg := Lib.hid hg; clear hg
  have Ho := Lib.hid ho; clear ho
  have Hl := Lib.hid hl; clear hl
  have Hv := Lib.hid hv; clear hv
  cases hw : wrongP L who l with
  | some p =>
    have e : TakeR w lb mb L who l = fun e w' => e = .returned (.tuple #[.string (mkB p), .bool false]) ∧ Pu w w' := by
      funext e w'; simp only [TakeR, hw]
    rw [e]
    have Hw := Lib.hid hw; clear hw e
    go_enter Tryz.func50, Tryz.ntmps50
    go_wp2_with (go_at_call 94; refine (wrong_any lb mb L who l _ _ H.out Ho.out Hv.out Hl.out (by omega) Hg.out).mono ?_; rw [Hw.out, parentV]; rintro e w1 ⟨rfl, hb1⟩)
    go_ret2
    exact ⟨rfl, hb1⟩
  | none =>
    have e : TakeR w lb mb L who l = fun e w' => e = .returned (.tuple #[.string (mkB []), .bool true]) ∧ LocksAt w' lb mb (takeL L who l) ∧ Fr (fun b => b = mb) w w' := by
      funext e w'; simp only [TakeR, hw]
    rw [e]
    have hgood : ∀ p ∈ l, good p = true := by
      intro p hp
      rw [wrongP, Option.or_eq_none_iff] at hw
      have := List.find?_eq_none.1 hw.1 p hp
      simpa using this
    have Hgood := Lib.hid hgood
    have Hw := Lib.hid hw; clear hw e hgood
    by_cases h0 : 0 < l.length
    · obtain ⟨b, off, cap, rfl, h2, h3, h4⟩ := Hv.out.pos h0
      go_enter Tryz.func50, Tryz.ntmps50
      go_wp2_with (go_at_call 94; refine (wrong_any lb mb L who l _ _ H.out Ho.out Hv.out Hl.out (by omega) Hg.out).mono ?_; rw [Hw.out, parentV]; rintro e w1 ⟨rfl, hb1⟩)
      have H4 := Lib.hid h4; clear h4
      have hb1' := Lib.hid hb1; clear hb1
      go_loopw [23] (fun i wr => ∃ k : Nat, k ≤ l.length ∧ i = .int .i64 k ∧ Fr (fun b => b = mb) w wr ∧ LocksAt wr lb mb (takeL L who (l.take k))) (fun i _ => l.length - (intOf i).toNat)
      case atStart => exact ⟨0, Nat.zero_le _, rfl, Fr.of_below hb1'.out, by simpa [takeL] using H.out.pu hb1'.out⟩
      case round =>
        obtain ⟨k, hk, rfl, hb, hA⟩ := hrel
        by_cases hlt : k < l.length
        · obtain ⟨p, hp⟩ : ∃ p, p = l[k] := ⟨_, rfl⟩
          have hgp : good p = true := Hgood.out _ (by rw [hp]; exact List.getElem_mem hlt)
          have hpl := good_len hgp
          have c0 : wr.cell? ⟨b, off + k, none⟩ = some (.string (mkB p)) := by
            have := H4.out k hlt
            rw [← hp] at this
            rw [← this]
            exact World.cell?_of_block (hb.keep b h3 (cell_ne_map this H.out.map))
          have c1 : wr.cell? ⟨lb, 0, none⟩ = some (.map (some mb)) := cell_of_blk hA.box
          have hok := (takeL_ok Ho.out who (l.take k) (fun q hq => Hgood.out q (List.mem_of_mem_take hq)) (by simp; omega)).2
          obtain ⟨w2, hst, hm2, ht2⟩ := hA.map.store (f' := fI Str) TS Tryz.underlying150 (by simp at hok; unfold maxLen; omega) p who (by unfold maxLen; omega) (fun _ _ _ => rfl)
          have HA := Lib.hid hA
          have HM := Lib.hid hm2
          have HT := Lib.hid ht2
          have Hp := Lib.hid hp
          have HB := Lib.hid hb
          clear hA hm2 ht2 hp hb hok
          replace hst : (Instr.mapUpdate 150 (.map (some mb)) (.string (mkB p)) (.int .i64 who)).run Tryz.prog wr = .ok () w2 := hst
          go_wp2
          go_roundw
          case rel =>
            refine ⟨k + 1, by omega, by go_num, HB.out.trans (turned_fr HT.out) (fun _ _ h => h), ⟨?_, ?_⟩⟩
            · exact ((turned_fr HT.out).keep lb (lt_of_blk HA.out.box) HA.out.ne).trans HA.out.box
            · have e1 : takeL L who (l.take (k + 1)) = aput p who (takeL L who (l.take k)) := by
                rw [List.take_succ_eq_append_getElem hlt, takeL, List.foldl_append, ← Hp.out]; rfl
              rw [e1]; exact HM.out
          case measure => simp [intOf]; omega
        · have hk' : k = l.length := by omega
          rw [hk', List.take_length] at hA
          have HA := Lib.hid hA
          have HB := Lib.hid hb
          clear hA hb
          go_wp2
          go_ret2
          exact ⟨rfl, HA.out, HB.out⟩
    · obtain rfl : l = [] := List.length_eq_zero_iff.1 (by omega)
      obtain ⟨a, cap, rfl, _⟩ := Hv.out.zero
      go_enter Tryz.func50, Tryz.ntmps50
      go_wp2_with (go_at_call 94; refine (wrong_any lb mb L who [] _ _ H.out Ho.out Hv.out Hl.out (by omega) Hg.out).mono ?_; rw [Hw.out, parentV]; rintro e w1 ⟨rfl, hb1⟩; have HB1 := Lib.hid hb1; clear hb1)
      refine wp_loop_rounds 1 ?_; rw [rounds_succ]
      go_wp2
      go_ret2
      exact ⟨rfl, H.out.pu HB1.out, Fr.of_below HB1.out⟩


def FreeR (w : World) (lb mb : Nat) (L : LocksD) (who : Int) (e : Ending) (w' : World) : Prop := ∃ n, e = .returned (.int .i64 n) ∧ LocksAt w' lb mb (freeL L who) ∧ Fr (fun b => b = mb) w w'

/-- How far Free has come. -/
structure Freeing (L : LocksD) (who : Int) (L' : LocksD) (left : Lit → Bool) : Prop where
  rise : asorted L'
  sub : ∀ x ∈ L', x ∈ L
  sup : ∀ x ∈ L, x.2 ≠ who → x ∈ L'
  todo : ∀ x ∈ L', x.2 = who → left (Key.lit x.1) = true
theorem Freeing.start {L : LocksD} {who : Int} {left : Lit → Bool} (h : asorted L) (hl : ∀ x ∈ L, left (Key.lit x.1) = true) : Freeing L who L left := ⟨h, fun _ h => h, fun _ h _ => h, fun x hx _ => hl x hx⟩
theorem Freeing.done {L L' : LocksD} {who : Int} {left : Lit → Bool} (h : Freeing L who L' left) (hL : asorted L) (hd : ∀ kl, left kl = false) : L' = freeL L who := by
  refine asorted_ext h.rise (List.Pairwise.filter _ hL) fun k => ?_
  refine Option.ext fun v => ?_
  have hf : asorted (freeL L who) := List.Pairwise.filter _ hL
  rw [aget_iff h.rise, aget_iff hf]
  simp only [freeL, List.mem_filter]
  constructor
  · intro hm
    refine ⟨h.sub _ hm, ?_⟩
    simp only [Bool.not_eq_true', beq_eq_false_iff_ne]
    intro hv
    have := h.todo _ hm hv
    rw [hd] at this; cases this
  · rintro ⟨hm, hv⟩
    exact h.sup _ hm (by simpa using hv)
theorem Freeing.pass {L L' : LocksD} {who : Int} {left : Lit → Bool} (h : Freeing L who L' left) {k : Str} {v : Int} (hm : (k, v) ∈ L') (hv : v ≠ who) : Freeing L who L' (fun x => left x && !x.sameKey (Key.lit k)) := by
  refine ⟨h.rise, h.sub, h.sup, fun x hx hx2 => ?_⟩
  simp only [Bool.and_eq_true, Bool.not_eq_true']
  refine ⟨h.todo x hx hx2, ?_⟩
  rw [Key.same_lit]
  simp only [beq_eq_false_iff_ne]
  intro e
  have := sorted_inj h.rise hx hm e
  subst this
  exact hv hx2
theorem Freeing.drop {L L' : LocksD} {who : Int} {left : Lit → Bool} (h : Freeing L who L' left) {k : Str} (hm : (k, who) ∈ L') : Freeing L who (adel k L') (fun x => (left x && !x.sameKey (Key.lit k)) && !x.sameKey (Key.lit k)) := by
  refine ⟨adel_sorted h.rise, fun x hx => h.sub x (mem_adel.1 hx).1, fun x hx hx2 => mem_adel.2 ⟨h.sup x hx hx2, ?_⟩, fun x hx hx2 => ?_⟩
  · rintro rfl
    have := sorted_inj h.rise (h.sup x hx hx2) hm rfl
    rw [this] at hx2; exact hx2 rfl
  · obtain ⟨a, b⟩ := mem_adel.1 hx
    have e : (Key.lit x.1).sameKey (Key.lit k) = false := by rw [Key.same_lit]; simpa using b
    simp [h.todo x a hx2, e]

set_option maxHeartbeats 1000000 in
set_option maxRecDepth 100000 in
theorem free_any (lb mb : Nat) (L : LocksD) (who : Int) (w : World) (h : LocksAt w lb mb L) (ho : LocksOk L) :
    Calls Tryz.prog 55 #[.pointer (some ⟨lb, 0, none⟩), .int .i64 who] w (FreeR w lb mb L who) := by
  have c0 : w.cell? ⟨lb, 0, none⟩ = some (.map (some mb)) := cell_of_blk h.box
  have hne := h.ne
  have hlb := lt_of_blk h.box
  have hmb := h.map.lt
  obtain ⟨w3, left, hrun, hit, hall, hp3, hs3⟩ := h.map.range TS Tryz.underlying150
  obtain ⟨r, hr⟩ : ∃ r, r = w.heap.size := ⟨_, rfl⟩
  rw [← hr] at hrun hit
  have Hr := Lib.hid hr
  have H := Lib.hid h
  have Ho := Lib.hid ho
  have It := Lib.hid hit
  have F0 := Lib.hid (Freeing.start (who := who) ho.rise hall)
  have P3 : Hid (Fr (fun b => b = mb) w w3) := Lib.hid (Fr.of_below hp3)
  clear hr h ho hit hall hp3
  go_enter Tryz.func55, Tryz.ntmps55
  go_wp2
  go_loopw [5] (fun n wr => ∃ (m : Int) (L' : LocksD) (left : Lit → Bool) (cnt : Nat), n = .int .i64 m ∧ Hid (Iter Tryz.prog 9 wr (fI Str) mb r L' left cnt) ∧ Hid (Fr (fun b => b = mb) w wr) ∧ Hid (Freeing L who L' left)) (fun _ wr => wr.rangeLeft mb r)
  case atStart => exact ⟨0, L, left, _, rfl, It, P3, F0⟩
  case round =>
    obtain ⟨m, L', left', cnt, rfl, It', P', A'⟩ := hrel
    rcases It'.out.next TS 0 with ⟨h0, hd, hn⟩ | ⟨k, v, w5, cnt', hkv, hlk, hn, it5, hlt5, hf5, hs5, hen⟩
    · go_wp2
      go_ret
      refine ⟨m, rfl, ?_, P'.out⟩
      rw [← A'.out.done Ho.out.rise hd]
      exact ⟨(P'.out.keep lb hlb hne).trans H.out.box, It'.out.map⟩
    · have P5 : Hid (Fr (fun b => b = mb) w w5) := Lib.hid (P'.out.trans hf5 fun x hx e => by rw [e, Hr.out] at hx; omega)
      replace hn : (Instr.next (.pointer (some ⟨r, 0, none⟩)) false 0).run Tryz.prog wr = .ok (.tuple #[.bool true, .string (mkB k), .int .i64 v]) w5 := hn
      replace hen : (Instr.entry (.pointer (some ⟨r, 0, none⟩))).run Tryz.prog w5 = .ok (.tuple #[.string (mkB k), .int .i64 v]) w5 := hen
      have hk : k.length ≤ 200 := good_len (Ho.out.good _ (A'.out.sub _ hkv))
      have C5 := Lib.hid It'.out.left_eq
      have c5 : w5.cell? ⟨lb, 0, none⟩ = some (.map (some mb)) := (World.cell?_of_block (P5.out.keep lb hlb hne)).trans c0
      have HN := Lib.hid hkv
      clear hkv hlk hf5
      by_cases hv : v = who
      · subst hv
        obtain ⟨w6, cnt6, hdr, it6, hc6, ht6⟩ := it5.drop TS Tryz.underlying150 k (by unfold maxLen; omega) 0
        replace hdr : (Builtin.delete_ #[150, 9] 0 #[.map (some mb), .string (mkB k)]).run Tryz.prog w5 = .ok (.tuple #[]) w6 := hdr
        have I6 := Lib.hid it6
        have T6 := Lib.hid ht6
        clear it6 ht6 it5
        go_wp2
        go_roundw
        case rel => exact ⟨_, _, _, _, rfl, I6, Lib.hid (P5.out.trans (turned_fr T6.out) (fun _ _ h => h)), Lib.hid (A'.out.drop HN.out)⟩
        case measure => rw [I6.out.left_eq, C5.out]; omega
      · have I5 := Lib.hid it5
        clear it5
        go_wp2
        go_roundw
        case rel => exact ⟨_, _, _, _, rfl, I5, P5, Lib.hid (A'.out.pass HN.out hv)⟩
        case measure => rw [I5.out.left_eq, C5.out]; omega

end Go.Proofs.YtmigbgfgnhkmnaaGreatDoor

/- Package op: what each function answers. -/
namespace Go.Proofs.YtmigbgfgnhkmnaaGreatDoor
open Go.RowKit Go.Av

set_option maxHeartbeats 1000000 in
set_option maxRecDepth 100000 in
theorem formed_any (o : OpD) (w : World) (hp : o.path.length ≤ 4294967280) (hg : Gl w) :
    Calls Tryz.prog 104 #[o.val] w fun e w' => e = .returned (.bool (formedB o)) ∧ Pu w w' := by
  have Hp := Lib.hid hp; clear hp
  have Hg := Lib.hid hg; clear hg
  cases hgd : good o.path
  all_goals
    have H := Lib.hid hgd; clear hgd
    go_enter Tryz.func104, Tryz.ntmps104
    go_wp2_with (go_at_call 125; refine (good_any _ _ Hp.out (Hg.out.pu (pu_alloc _ _))).mono ?_; rw [H.out]; rintro e w1 ⟨rfl, hb1⟩; obtain ⟨hc, hf⟩ := bcell hb1)
    all_goals
      go_ret
      refine ⟨ret_bool ?_, ?_⟩
      · go_light; have h1 := H.out; clear Hg Hp H; grind [formedB]
      · first | exact pu_alloc _ _ | exact (pu_alloc _ _).tr hb1

set_option maxHeartbeats 1000000 in
set_option maxRecDepth 100000 in
theorem versioned_any (k : Int) (w : World) :
    Calls Tryz.prog 136 #[.int .i64 k] w fun e w' => e = .returned (.bool (versionedB k)) ∧ w = w' := by
  go_enter Tryz.func136, Tryz.ntmps136
  go_wp2
  all_goals
    go_ret
    refine ⟨ret_bool ?_, rfl⟩
    go_light; grind [versionedB]

set_option maxHeartbeats 1000000 in
set_option maxRecDepth 100000 in
theorem reads_any (k : Int) (w : World) :
    Calls Tryz.prog 64 #[.int .i64 k] w fun e w' => e = .returned (.bool (readsB k)) ∧ w = w' := by
  go_enter Tryz.func64, Tryz.ntmps64
  go_wp2
  all_goals
    go_ret
    refine ⟨ret_bool ?_, rfl⟩
    go_light; grind [readsB]

set_option maxHeartbeats 1000000 in
set_option maxRecDepth 100000 in
theorem own_any (o : OpD) (w : World) :
    Calls Tryz.prog 105 #[o.val] w fun e w' => e = .returned (.bool (ownB o)) ∧ Pu w w' := by
  go_enter Tryz.func105, Tryz.ntmps105
  go_wp2_with (go_at_call 136; refine (versioned_any _ _).mono ?_; rintro e w1 ⟨rfl, rfl⟩)
  all_goals
    go_ret
    refine ⟨ret_bool ?_, pu_alloc _ _⟩
    go_light; grind [ownB]


set_option maxHeartbeats 1000000 in
set_option maxRecDepth 100000 in
theorem numbered_any (o : OpD) (w : World) (hp : o.path.length ≤ 1000000) (hg : Gl w) :
    Calls Tryz.prog 106 #[o.val] w fun e w' => e = .returned (.bool (numberedB o)) ∧ Pu w w' := by
  cases hs : seqB o.flags with
  | false =>
    have hn : numberedB o = true := by simp [numberedB, hs]
    rw [hn]
    have h1 : (bits BinOp.and IntKind.i64 o.flags 2 == 0) = true := by simpa [seqB] using hs
    clear hs hn
    go_enter Tryz.func106, Tryz.ntmps106
    go_wp2_with fail
    go_ret
    exact ⟨rfl, pu_alloc _ _⟩
  | true =>
    have hn : numberedB o = (decide (1 < (parts o.path).length) && (number o.path 0).isSome) := by simp [numberedB, hs]
    rw [hn]
    have h1 : (bits BinOp.and IntKind.i64 o.flags 2 == 0) = false := by simpa [seqB] using hs
    have Hp := Lib.hid hp
    have hp2 : o.path.length ≤ 4294967280 := by omega
    have Hp2 := Lib.hid hp2
    have Hg := Lib.hid hg; clear hg hs hn hp hp2
    obtain ⟨q, hq⟩ : ∃ q, q = number o.path 0 := ⟨_, rfl⟩
    rw [← hq]
    have Hq := Lib.hid hq
    clear hq
    cases q
    all_goals
      go_enter Tryz.func106, Tryz.ntmps106
      go_wp2_with fail
      refine (number_any _ _ _ Hp.out (Hg.out.pu (pu_alloc _ _))).mono ?_
      rw [← Hq.out]
      rintro e w1 ⟨rfl, hb1⟩
      obtain ⟨hc, hf⟩ := bcell hb1
      simp only [numberV]
      go_wp2_with fail
      refine (parts_any _ _ Hp2.out ((Hg.out.pu (pu_alloc _ _)).pu hb1)).mono ?_
      rintro e w2 ⟨v, rfl, hv, hb2⟩
      obtain ⟨a, cap, rfl⟩ := hv.len
      go_wp2_with fail
      all_goals
        go_ret
        refine ⟨ret_bool ?_, ((pu_alloc _ _).tr hb1).tr hb2⟩
        go_light; clear Hq Hp Hp2 Hg hv; simp; try omega

set_option maxHeartbeats 1000000 in
set_option maxRecDepth 100000 in
theorem opGood_any (o : OpD) (w : World) (hp : o.path.length ≤ 1000000) (hg : Gl w) :
    Calls Tryz.prog 61 #[o.val] w fun e w' => e = .returned (.int .i64 (opGood o)) ∧ Pu w w' := by
  have Hp := Lib.hid hp
  have hp2 : o.path.length ≤ 4294967280 := by omega
  have Hp2 := Lib.hid hp2
  have Hg := Lib.hid hg; clear hg hp hp2
  cases hf : formedB o
  all_goals have Hf := Lib.hid hf; clear hf
  all_goals cases ho : ownB o
  all_goals have Ho := Lib.hid ho; clear ho
  all_goals cases hn : numberedB o
  all_goals
    have Hn := Lib.hid hn; clear hn
    go_enter Tryz.func61, Tryz.ntmps61
    go_wp2_with (first
      | (go_at_call 104; refine (formed_any o _ Hp2.out (Hg.out.pu (pu_alloc _ _))).mono ?_; rw [Hf.out]; rintro e w1 ⟨rfl, hb1⟩; obtain ⟨hc, hf⟩ := bcell hb1; have hlt1 : w.heap.size < w1.heap.size := by have := hb1.size; simp at this; omega)
      | (go_at_call 105; refine (own_any o _).mono ?_; rw [Ho.out]; rintro e w2 ⟨rfl, hb2⟩; obtain ⟨hc2, hf2⟩ := bcell hb2)
      | (go_at_call 106; refine (numbered_any o _ Hp.out (((Hg.out.pu (pu_alloc _ _)).pu hb1).pu hb2)).mono ?_; rw [Hn.out]; rintro e w3 ⟨rfl, hb3⟩))
    all_goals
      go_ret
      refine ⟨ret_int ?_, ?_⟩
      · go_light; have h1 := Hf.out; have h2 := Ho.out; have h3 := Hn.out; clear Hg Hp Hp2 Hf Ho Hn; grind [opGood]
      · first | exact (pu_alloc _ _).tr hb1 | exact ((pu_alloc _ _).tr hb1).tr hb2 | exact (((pu_alloc _ _).tr hb1).tr hb2).tr hb3


set_option maxHeartbeats 1000000 in
set_option maxRecDepth 100000 in
theorem may1_any (o : OpD) (w : World) :
    Calls Tryz.prog 63 #[o.val] w fun e w' => e = .returned (.bool (readsB o.kind)) ∧ Pu w w' := by
  go_enter Tryz.func63, Tryz.ntmps63
  go_wp2_with (go_at_call 64; refine (reads_any _ _).mono ?_; rintro e w1 ⟨rfl, rfl⟩)
  go_ret
  exact ⟨rfl, pu_alloc _ _⟩

/-- A number, at least 0 just if one of them reads. -/
def IdxR (l : List OpD) (w : World) (e : Ending) (w' : World) : Prop := ∃ n : Int, e = .returned (.int .i64 n) ∧ (decide (0 ≤ n) = l.any fun o => readsB o.kind) ∧ Pu w w'

set_option maxHeartbeats 1000000 in
set_option maxRecDepth 100000 in
theorem idxReads_any {tO : TypeId} (l : List OpD) (v : Value) (w : World) (h : SlO tO w v l) (hl : l.length ≤ 1000000) :
    Calls Tryz.prog 107 #[v, .func (.func 63) #[] #[]] w (IdxR l w) := by
  by_cases h0 : 0 < l.length
  · obtain ⟨b, off, cap, rfl, h2, h3, h4⟩ := h.pos h0
    have H4 := Lib.hid h4; clear h4 h
    go_enter Tryz.func107, Tryz.ntmps107
    go_wp2
    go_loopw [8] (fun i wr => ∃ k : Nat, k ≤ l.length ∧ i = .int .i64 k ∧ Pu w wr ∧ ((l.take k).any fun o => readsB o.kind) = false) (fun i _ => l.length - (intOf i).toNat)
    case atStart => exact ⟨0, Nat.zero_le _, rfl, Below.refl _ _, by simp⟩
    case round =>
      obtain ⟨k, hk, rfl, hb, ha⟩ := hrel
      have Ha := Lib.hid ha; clear ha
      by_cases hlt : k < l.length
      · obtain ⟨c0, c1, c2, c3, c4⟩ := H4.out k hlt
        obtain ⟨o, ho⟩ : ∃ o, o = l[k] := ⟨_, rfl⟩
        rw [← ho] at c0 c1 c2 c3 c4
        have Ho := Lib.hid ho; clear ho
        obtain ⟨hc, hf⟩ := bcell hb
        cases hr : readsB o.kind
        all_goals
          have Hr := Lib.hid hr; clear hr
          go_wp2_with (first | (go_at_call 63; refine (may1_any o _).mono ?_; rw [Hr.out]; rintro e w1 ⟨rfl, hb1⟩))
        · go_roundw
          case rel => exact ⟨k + 1, by omega, by go_num, hb.tr hb1, by rw [List.take_succ_eq_append_getElem hlt, List.any_append, Ha.out]; simp [← Ho.out, Hr.out]⟩
          case measure => simp [intOf]; omega
        · go_ret
          refine ⟨k, rfl, ?_, hb.tr hb1⟩
          have : (l.any fun o => readsB o.kind) = true := List.any_eq_true.2 ⟨l[k], List.getElem_mem hlt, by rw [← Ho.out]; exact Hr.out⟩
          rw [this]; simp
      · go_wp2
        go_ret
        refine ⟨-1, rfl, ?_, hb⟩
        have hk' : k = l.length := by omega
        have := Ha.out
        rw [hk', List.take_length] at this
        rw [this]; rfl
  · obtain rfl : l = [] := List.length_eq_zero_iff.1 (by omega)
    obtain ⟨a, cap, rfl, _⟩ := h.len
    go_enter Tryz.func107, Tryz.ntmps107
    go_wp2
    refine wp_loop_rounds 1 ?_; rw [rounds_succ]
    go_wp2
    go_ret
    exact ⟨-1, rfl, by simp, Below.refl _ _⟩

set_option maxHeartbeats 1000000 in
set_option maxRecDepth 100000 in
theorem anyReads_any {tO : TypeId} (l : List OpD) (v : Value) (w : World) (h : SlO tO w v l) (hl : l.length ≤ 1000000) :
    Calls Tryz.prog 62 #[v, .func (.func 63) #[] #[]] w fun e w' => e = .returned (.bool (l.any fun o => readsB o.kind)) ∧ Pu w w' := by
  have H := Lib.hid h; clear h
  go_enter Tryz.func62, Tryz.ntmps62
  go_wp2_with (go_at_call 107; refine (idxReads_any l _ _ H.out hl).mono ?_; rintro e w1 ⟨n, rfl, hn, hb1⟩; have Hn := Lib.hid hn; clear hn)
  go_ret
  exact ⟨ret_bool Hn.out, hb1⟩


set_option maxHeartbeats 2000000 in
set_option maxRecDepth 100000 in
theorem may_any {tO : TypeId} (r : Req) (v : Value) (w : World) (h : SlO tO w v r.ops) (hb : ∀ o ∈ r.ops, o.path.length ≤ 1000000) (hg : Gl w) :
    Calls Tryz.prog 20 #[.agg #[.int .i64 r.sess, .int .i64 r.num, v]] w fun e w' => e = .returned (.int .i64 (may r)) ∧ Pu w w' := by
  obtain ⟨sess, num, l⟩ := r
  simp only at h hb ⊢
  have Hg := Lib.hid hg; clear hg
  have Hb := Lib.hid hb; clear hb
  obtain ⟨n, hn⟩ : ∃ n, n = l.length := ⟨_, rfl⟩
  by_cases hE : sess < 1 ∨ num < 1 ∨ n = 0
  · obtain ⟨a, cap, rfl, _⟩ := h.len
    have hm : may ⟨sess, num, l⟩ = 1 := by rw [may, if_pos]; simpa [hn, List.length_eq_zero_iff] using hE
    rw [hm, ← hn]
    clear hm hn h
    go_enter Tryz.func20, Tryz.ntmps20
    go_wp2_with fail
    all_goals first
      | (go_ret; exact ⟨rfl, pu_alloc _ _⟩)
      | (exfalso; go_light; simp_all; try omega)
  · have hne : ¬ (sess < 1 ∨ num < 1 ∨ l = []) := by rw [← List.length_eq_zero_iff, ← hn]; exact hE
    obtain ⟨h1, h2, h3⟩ : 1 ≤ sess ∧ 1 ≤ num ∧ 1 ≤ n := by omega
    have h3' : ((n : Int) == 0) = false := by simp; omega
    clear hE
    by_cases h16 : n ≤ 16
    · obtain ⟨b, off, cap, rfl, hcap, hblt, H4⟩ := h.pos (by omega)
      rw [← hn] at h
      have Hs := Lib.hid h; clear h
      have hm : may ⟨sess, num, l⟩ = if firstBad l ≠ 0 then firstBad l else if 1 < l.length ∧ l.any (fun o => readsB o.kind) = true then 1 else 0 := by rw [may, if_neg hne, if_neg (by simp only; omega)]
      rw [hm]
      have HC := Lib.hid H4
      rw [← hn] at hcap ⊢
      obtain ⟨R, hR⟩ : ∃ R : Int, R = if firstBad l ≠ 0 then firstBad l else if 1 < n ∧ l.any (fun o => readsB o.kind) = true then 1 else 0 := ⟨_, rfl⟩
      rw [← hR]
      have HR := Lib.hid hR
      clear hR
      have Hn := Lib.hid hn
      clear H4 hm hne hn
      go_enter Tryz.func20, Tryz.ntmps20
      go_wp2_with fail
      go_loopw [29] (fun i wr => ∃ k : Nat, k ≤ n ∧ i = .int .i64 k ∧ Pu (w.alloc (.cells #[.int .i64 sess, .int .i64 num, .slice (some ⟨b, off, none⟩) n cap] 37)) wr ∧ firstBad (l.take k) = 0) (fun i _ => n - (intOf i).toNat)
      case atStart => exact ⟨0, Nat.zero_le _, rfl, Below.refl _ _, rfl⟩
      case round =>
        obtain ⟨k, hk, rfl, hbw, ha⟩ := hrel
        have Ha := Lib.hid ha; clear ha
        obtain ⟨hc, hf⟩ := bcell hbw
        have hGr := (Hg.out.pu (pu_alloc _ _)).pu hbw
        have HGr := Lib.hid hGr; clear hGr
        have hzr : w.heap.size < wr.heap.size := by have := hbw.size; simp at this; omega
        by_cases hlt : k < n
        · obtain ⟨c0, c1, c2, c3, c4⟩ := HC.out k (by rw [← Hn.out]; exact hlt)
          obtain ⟨o, ho⟩ : ∃ o, o = l[k]'(by rw [← Hn.out]; exact hlt) := ⟨_, rfl⟩
          rw [← ho] at c0 c1 c2 c3 c4
          have hop : o.path.length ≤ 1000000 := Hb.out o (by rw [ho]; exact List.getElem_mem _)
          have Ho := Lib.hid ho
          have Hop := Lib.hid hop
          clear ho hop
          obtain ⟨z, hz⟩ : ∃ z, z = opGood o := ⟨_, rfl⟩
          have Hz := Lib.hid hz
          clear hz
          by_cases hz0 : z = 0
          · subst hz0
            go_wp2_with (first | (go_at_call 61; refine (opGood_any o _ Hop.out (HGr.out.pu (pu_alloc _ _))).mono ?_; rw [← Hz.out]; rintro e w1 ⟨rfl, hb1⟩))
            go_roundw
            case rel => exact ⟨k + 1, by omega, by go_num, hbw.tr ((pu_alloc _ _).tr hb1), by rw [firstBad_take Ha.out (by rw [← Hn.out]; exact hlt), ← Ho.out]; exact Hz.out.symm⟩
            case measure => simp [intOf]; omega
          · have hz1 : (z == 0) = false := by simpa using hz0
            have hz2 : (z != 0) = true := by simpa using hz0
            have Hz0 := Lib.hid hz0
            clear hz0
            go_wp2_with (first | (go_at_call 61; refine (opGood_any o _ Hop.out (HGr.out.pu (pu_alloc _ _))).mono ?_; rw [← Hz.out]; rintro e w1 ⟨rfl, hb1⟩))
            go_ret
            refine ⟨ret_int ?_, ((pu_alloc _ _).tr hbw).tr ((pu_alloc _ _).tr hb1)⟩
            have hh := firstBad_hit (k := k) Ha.out (by rw [← Hn.out]; exact hlt) (by rw [← Ho.out, ← Hz.out]; exact Hz0.out)
            rw [HR.out, hh, ← Ho.out, ← Hz.out, if_pos Hz0.out]
        · have hfb : firstBad l = 0 := by have := Ha.out; rwa [show k = l.length by have := Hn.out; omega, List.take_length] at this
          have Hfb := Lib.hid hfb; clear hfb
          clear hc
          obtain ⟨hc, _⟩ := bcell hbw
          by_cases h1n : (1 : Int) < n
          · cases har : (l.any fun o => readsB o.kind)
            all_goals have Har := Lib.hid har; clear har
            all_goals go_wp2_with (first | (go_at_call 62; refine (anyReads_any l _ _ ((Hs.out.pu (pu_alloc _ _)).pu hbw) (by have := Hn.out; omega)).mono ?_; rw [Har.out]; rintro e w1 ⟨rfl, hb1⟩))
            all_goals
              go_ret
              refine ⟨ret_int ?_, ((pu_alloc _ _).tr hbw).tr hb1⟩
              rw [HR.out, Hfb.out, Har.out, if_neg (by simp)]
              first | rw [if_pos ⟨by omega, rfl⟩] | rw [if_neg (by simp)]
          · go_wp2
            go_ret
            refine ⟨ret_int ?_, (pu_alloc _ _).tr hbw⟩
            rw [HR.out, Hfb.out, if_neg (by simp), if_neg (by omega)]
    · obtain ⟨a, cap, rfl, _⟩ := h.len
      have hm : may ⟨sess, num, l⟩ = 2 := by rw [may, if_neg hne, if_pos (by simp only; omega)]
      rw [hm, ← hn]
      clear hm hn h hne
      go_enter Tryz.func20, Tryz.ntmps20
      go_wp2_with fail
      go_ret
      exact ⟨rfl, pu_alloc _ _⟩

set_option maxHeartbeats 2000000 in
set_option maxRecDepth 100000 in
theorem mayX_any (r : Req) (v : Value) (w : World) (h : SlX w v r.ops) (hb : ∀ o ∈ r.ops, o.path.length ≤ 1000000) (hg : Gl w) :
    Calls Tryz.prog 20 #[.agg #[.int .i64 r.sess, .int .i64 r.num, v]] w fun e w' => e = .returned (.int .i64 (may r)) ∧ Pu w w' := by
  rcases h with ⟨h0, a, cap, rfl⟩ | ⟨t, h⟩
  · obtain ⟨sess, num, l⟩ := r
    simp only at h0
    subst h0
    have hm : may ⟨sess, num, []⟩ = 1 := by rw [may, if_pos]; simp
    rw [hm]
    clear hm hb hg
    go_enter Tryz.func20, Tryz.ntmps20
    go_wp2_with fail
    all_goals first
      | (go_ret; exact ⟨rfl, pu_alloc _ _⟩)
      | (exfalso; go_light; simp_all; try omega)
  · exact may_any r v w h hb hg

end Go.Proofs.YtmigbgfgnhkmnaaGreatDoor

/- Package reply: what Fail does. -/
namespace Go.Proofs.YtmigbgfgnhkmnaaGreatDoor
open Go.RowKit Go.Av

attribute [local go_sem ↓] Go.wp_at_zero Go.wp_at_succ

/-- A reply's cells. -/
def repCells (r : ReplyD) (rv : Value) : List Value := [.int .i64 r.num, .int .i64 r.zxid, .int .i64 r.err, .int .i64 r.place, rv]
attribute [go_sem] repCells
/-- A call's answer: this reply, in new memory or old. -/
def RepR (r : ReplyD) (w : World) (e : Ending) (w' : World) : Prop := ∃ rv, e = .returned (.agg (repCells r rv).toArray) ∧ SlR 59 9 w' rv r.results ∧ Pu w w'

theorem sizeReply : (Tryz.prog.info? 34).map (·.size) = some 5 := by kernel_rfl
theorem rowReply : ∃ d, Tryz.prog.underlying 34 = some d ∧ d.isRow = true := ⟨_, Tryz.underlying34, rfl⟩
theorem sizeRes : (Tryz.prog.info? 59).map (·.size) = some 11 := by kernel_rfl
theorem infoRes : (Tryz.prog.info? 59).map (fun i => (i.zero, i.size, i.bytes)) = some (some (.agg (ResD.cells (failRes 0) (.slice none 0 0)).toArray), 11, 120) := by kernel_rfl
theorem rep_one (r : ReplyD) (a : Option Addr) (k cap : Nat) : ((repCells r (.slice a k cap)).toArray.all fun x => x.oneCell') = true := by simp [repCells, Value.oneCell']

theorem addr_add (b o j : Nat) : (⟨b, o, none⟩ : Addr).add j = ⟨b, o + j, none⟩ := by
  unfold Addr.add; cases j <;> simp
theorem news_at {w : World} {b : Nat} {cs : List Value} {t : TypeId} {fr : Nat × Nat} (h : w.heap[b]? = some (.cells cs.toArray t fr)) : ∀ j u, cs[j]? = some u → w.cell? ((⟨b, 0, none⟩ : Addr).add j) = some u := by
  intro j u hu
  have := cell_of_blk (o := 0 + j) h
  rw [addr_add, this]; simpa using hu
theorem res_one (r : ResD) (a : Option Addr) (k cap : Nat) : ∀ u ∈ r.cells (.slice a k cap), u.oneCell' = true := by
  intro u hu
  simp [ResD.cells] at hu
  rcases hu with rfl | rfl | rfl | rfl | rfl | rfl | rfl | rfl | rfl | rfl | rfl <;> rfl

theorem own_ge {w : World} {B : Nat} {e : TypeId} {sz n : Nat} {v : Value} {xs : List Value} (h : w.ownsRow B e sz v n xs) : ∀ k, v.ownBlock = some k → B ≤ k := by
  rcases h with ⟨h1, ⟨rfl, hn⟩ | ⟨g, cap, cur, rfl, hBg, hg, r⟩⟩
  · intro k hk; cases hk
  · intro k hk; cases hk; exact hBg

/-- The first k of what Fail writes, with the slices of their names: none. -/
def failZs (e place : Int) (k : Nat) : List (ResD × Value) := (failAll e place k).map fun r => (r, .slice none 0 0)
theorem failAll_len (e place : Int) (k : Nat) : (failAll e place k).length = k := by simp [failAll]
theorem failZs_len (e place : Int) (k : Nat) : (failZs e place k).length = k := by simp [failZs, failAll_len]
theorem failZs_succ (e place : Int) (k : Nat) : failZs e place (k + 1) = failZs e place k ++ [(failRes (if (k : Int) = place then e else 14), .slice none 0 0)] := by
  simp [failZs, failAll, List.range_succ]

set_option maxHeartbeats 1000000 in
set_option maxRecDepth 100000 in
theorem fail_any (num e place : Int) (n : Nat) (w : World) (hn : n ≤ 1000000) :
    Calls Tryz.prog 44 #[.int .i64 num, .int .i64 e, .int .i64 place, .int .i64 n] w (RepR (failRep num e place n) w) := by
  by_cases h16 : 16 < n
  · have e1 : failRep num e place n = ⟨num, 0, e, place, []⟩ := by simp [failRep, h16]
    rw [e1]
    go_enter Tryz.func44, Tryz.ntmps44
    go_wp2
    refine bodyPost_ret (v := .agg (repCells ⟨num, 0, e, place, []⟩ (.slice none 0 0)).toArray) (results_cell Tryz.results44 rfl (al2a w _ _) _ Tryz.underlying34 rfl sizeReply) rfl ⟨_, rfl, SlR.nil _ _ _, (pu_alloc _ _).tr (pu_alloc _ _)⟩
  · have e1 : failRep num e place n = ⟨num, 0, e, place, failAll e place n⟩ := by simp [failRep, h16]
    rw [e1]
    clear e1
    obtain ⟨i0, hi, hz0, hz1, hz2⟩ := info_parts infoRes
    have Hi := Lib.hid hi
    clear hi
    have B1 := al2a w (.cells (repCells ⟨0, 0, 0, 0, []⟩ (.slice none 0 0)).toArray 34) (.cells (repCells ⟨num, 0, e, place, []⟩ (.slice none 0 0)).toArray 34)
    have B2 := al2b w (.cells (repCells ⟨0, 0, 0, 0, []⟩ (.slice none 0 0)).toArray 34) (.cells (repCells ⟨num, 0, e, place, []⟩ (.slice none 0 0)).toArray 34)
    have HB1 := Lib.hid B1; have HB2 := Lib.hid B2
    clear B1 B2
    go_enter Tryz.func44, Tryz.ntmps44
    go_wp2
    go_loopw [24] (fun i wr => ∃ (k : Nat) (rv : Value), k ≤ n ∧ i = .int .i64 k ∧ Hid (wr.heap[w.heap.size]? = some (.cells (repCells ⟨0, 0, 0, 0, []⟩ (.slice none 0 0)).toArray 34 (0, 0))) ∧ Hid (wr.heap[w.heap.size + 1]? = some (.cells (repCells ⟨num, 0, e, place, []⟩ rv).toArray 34 (0, 0))) ∧ Hid (wr.ownsRow (w.heap.size + 2) 59 11 rv k (rcells (failZs e place k))) ∧ Hid (Pu w wr)) (fun i _ => n - (intOf i).toNat)
    case atStart => exact ⟨0, .slice none 0 0, Nat.zero_le _, rfl, HB1, HB2, Lib.hid ⟨rfl, .inl ⟨rfl, rfl⟩⟩, Lib.hid ((pu_alloc _ _).tr (pu_alloc _ _))⟩
    case round =>
      obtain ⟨k, rv, hk, rfl, H1, H2, H3, H4⟩ := hrel
      have hlt2 := lt_of_blk H2.out
      have hown := H3.out
      by_cases hlt : k < n
      · have d4 : wr.cell? ⟨w.heap.size + 1, 4, none⟩ = some rv := cell_of_blk H2.out
        have f4 : wr.frozen? ⟨w.heap.size + 1, 4, none⟩ = false := frozen_of_blk H2.out
        obtain ⟨x, hx⟩ : ∃ x : Int, x = if (k : Int) = place then e else 14 := ⟨_, rfl⟩
        have Hx := Lib.hid hx
        have step : ∀ (v' : Value) (w2 : World), w2.ownsRow (w.heap.size + 2) 59 11 v' (k + 1) (rcells (failZs e place k) ++ (failRes x).cells (.slice none 0 0)) → ((wr.alloc (.cells ((failRes x).cells (.slice none 0 0)).toArray 59)).alloc (.cells ((failRes x).cells (.slice none 0 0)).toArray 59)).grownBy w2 rv.ownBlock →
            ∃ a cap, v' = .slice a (k + 1) cap ∧ w2.cell? ⟨w.heap.size + 1, 4, none⟩ = some rv ∧ w2.frozen? ⟨w.heap.size + 1, 4, none⟩ = false ∧ Hid (w2.heap[w.heap.size]? = some (.cells (repCells ⟨0, 0, 0, 0, []⟩ (.slice none 0 0)).toArray 34 (0, 0))) ∧ Hid (w2.heap[w.heap.size + 1]? = some (.cells (repCells ⟨num, 0, e, place, []⟩ rv).toArray 34 (0, 0))) ∧ Hid (w2.ownsRow (w.heap.size + 2) 59 11 v' (k + 1) (rcells (failZs e place (k + 1)))) ∧ Hid (Pu w w2) := by
          intro v' w2 ho hg
          obtain ⟨a, cap, rfl, _⟩ := (Sl.of_own ho).form
          have keep : ∀ b, b < w.heap.size + 2 → w2.heap[b]? = wr.heap[b]? := fun b hb => by
            refine (hg.block b (by simp; omega) fun e => ?_).trans ((al_old' _ _ (by simp; omega)).trans (al_old' _ _ (by omega)))
            have := own_ge hown b e.symm
            omega
          have k2 := (keep (w.heap.size + 1) (by omega)).trans H2.out
          refine ⟨a, cap, rfl, cell_of_blk k2, frozen_of_blk k2, Lib.hid ((keep _ (by omega)).trans H1.out), Lib.hid k2, Lib.hid ?_, Lib.hid ?_⟩
          · rw [failZs_succ, rcells_append, ← hx]
            simpa [rcells] using ho
          · refine ⟨hg.os.trans H4.out.os, hg.tape.trans H4.out.tape, hg.output.trans H4.out.output, Nat.le_trans H4.out.size (Nat.le_trans (by simp; omega) hg.size), fun b hb => (keep b (by omega)).trans (H4.out.block b hb)⟩
        clear hx
        by_cases hp : (k : Int) = place
        all_goals
          have hx' : x = _ := Hx.out.trans (by first | exact if_pos hp | exact if_neg hp)
          subst hx'
          go_wp2_with (at_builtin; refine wpList_append_own _ rfl (.tmp 34) (.tmp 36) 32 rfl (w.heap.size + 2) 59 i0 _ 11 120 Tryz.underlying32 Hi.out hz0 hz1 hz2 rfl (by decide) rv k _ rfl (own_pu hown ((pu_alloc _ _).tr (pu_alloc _ _))) ⟨wr.heap.size + 1, 0, none⟩ 1 1 ((failRes _).cells (.slice none 0 0)) rfl rfl (news_at (al2b wr _ _)) (res_one _ _ _ _) (by unfold maxLen; omega) (by omega) (by simp; omega) ?_; intro v' w2 hown' hgrow _; obtain ⟨a, cap, rfl, hc2, hf2, G1, G2, G3, G4⟩ := step v' w2 hown' hgrow; clear hown' hgrow)
          go_roundw
          case rel => exact ⟨k + 1, .slice a (k + 1) cap, by omega, by (first | (simp; done) | (simp; omega)), Lib.hid ((other_set (by omega) _ _).trans G1.out), Lib.hid (by simpa [repCells] using setCell_blk G2.out 4 (.slice a (k + 1) cap)), Lib.hid (ownsRow_setCell_other G3.out (fun e => by have := own_ge G3.out _ e; simp at this) _), Lib.hid (pu_set G4.out (by omega) _ _)⟩
          case measure => simp [intOf]; omega
      · have hk' : k = n := by omega
        subst hk'
        obtain ⟨a, cap, rfl, _⟩ := (Sl.of_own hown).form
        have q := fun o => cell_of_blk (o := o) H2.out
        go_wp2_with (refine wpl_store_whole rfl 34 (.tmp 8) (.tmp 40) rfl w.heap.size (repCells ⟨num, 0, e, place, []⟩ (.slice a k cap)).toArray rfl rfl _ _ H1.out (by rfl) sizeReply (rep_one _ _ _ _) ?_; intro w2 hB2 hFr hsz)
        refine bodyPost_ret (v := .agg (repCells ⟨num, 0, e, place, failAll e place k⟩ (.slice a k cap)).toArray) (results_cell Tryz.results44 rfl hB2 _ Tryz.underlying34 rfl sizeReply) rfl ⟨_, rfl, ?_, pu_of_fr H4.out hFr (Nat.le_refl _)⟩
        refine ⟨failZs e place k, by simp [failZs, Function.comp_def], ?_, ?_⟩
        · rw [failZs_len]
          exact (Sl.of_own hown).keep fun b c fr hb => hFr.keep b (lt_of_blk hb) (fun e => by rw [e, H1.out] at hb; simp at hb)
        · intro z hz
          obtain ⟨r, hr, rfl⟩ := List.mem_map.1 hz
          obtain ⟨i, hi, rfl⟩ := List.mem_map.1 hr
          exact SlS.nil _ _

end Go.Proofs.YtmigbgfgnhkmnaaGreatDoor

/- Package tree: what each function does. -/
namespace Go.Proofs.YtmigbgfgnhkmnaaGreatDoor
open Go.RowKit Go.Av

attribute [local go_sem ↓] Go.wp_at_zero Go.wp_at_succ
attribute [local go_sem] run_makeMap

/-- Where a tree's nodes lie. -/
def fN (nb : Str → Nat) (p : Str) (_ : NodeD) : Value := .pointer (some ⟨nb p, 0, none⟩)

/-- Block tp of w is this tree: its nodes in the map in block mp, node p in block nb p. -/
structure TreeIn (w : World) (tp mp : Nat) (nb : Str → Nat) (T : TreeD) : Prop where
  box : w.heap[tp]? = some (.cells #[.int .i64 T.room, .map (some mp)] 117 (0, 0))
  map : MapV Tryz.prog 9 w (fN nb) mp T.nodes
  node : ∀ x ∈ T.nodes, NodeAt w (nb x.1) x.2
  inj : ∀ x ∈ T.nodes, ∀ y ∈ T.nodes, nb x.1 = nb y.1 → x.1 = y.1

/-- The blocks of a tree. -/
def Foot (tp mp : Nat) (nb : Str → Nat) (T : TreeD) : Nat → Prop := fun b => b = tp ∨ b = mp ∨ ∃ x ∈ T.nodes, b = nb x.1

variable {w w' : World} {tp mp : Nat} {nb : Str → Nat} {T : TreeD}

theorem TreeIn.lt (h : TreeIn w tp mp nb T) {b : Nat} (hb : Foot tp mp nb T b) : b < w.heap.size := by
  rcases hb with rfl | rfl | ⟨x, hx, rfl⟩
  · exact lt_of_blk h.box
  · exact h.map.lt
  · exact (h.node x hx).lt
theorem TreeIn.not_str (h : TreeIn w tp mp nb T) {b : Nat} (hb : Foot tp mp nb T b) (c : Array Value) (t : TypeId) (fr : Nat × Nat) (hc : w.heap[b]? = some (.cells c t fr)) : t = 117 ∨ t = 124 := by
  rcases hb with rfl | rfl | ⟨x, hx, rfl⟩
  · rw [h.box] at hc; cases hc; exact .inl rfl
  · obtain ⟨es, k, h1⟩ := h.map.isMap; rw [h1] at hc; cases hc
  · obtain ⟨nv, h1, _⟩ := h.node x hx; rw [h1] at hc; cases hc; exact .inr rfl
theorem TreeIn.pu (h : TreeIn w tp mp nb T) (hp : Pu w w') : TreeIn w' tp mp nb T :=
  ⟨(hp.block tp (lt_of_blk h.box)).trans h.box, h.map.pu hp, fun x hx => (h.node x hx).pu hp, h.inj⟩
set_option maxRecDepth 100000 in
theorem TreeIn.look (h : TreeIn w tp mp nb T) (p : Str) (hp : p.length ≤ 1000000) : (Instr.lookup 115 (.map (some mp)) (.string (mkB p)) false).run Tryz.prog w = .ok ((aget p T.nodes).elim (.pointer none) (fun _ => .pointer (some ⟨nb p, 0, none⟩))) w :=
  h.map.look TS Tryz.underlying115 (z := .pointer none) rfl p (by unfold maxLen; omega)
theorem TreeIn.look_none (h : TreeIn w tp mp nb T) (p : Str) (hp : p.length ≤ 1000000) (hn : aget p T.nodes = none) : (Instr.lookup 115 (.map (some mp)) (.string (mkB p)) false).run Tryz.prog w = .ok (.pointer none) w := by
  have := h.look p hp; rwa [hn] at this
theorem TreeIn.look_some (h : TreeIn w tp mp nb T) (p : Str) (hp : p.length ≤ 1000000) {n : NodeD} (hn : aget p T.nodes = some n) : (Instr.lookup 115 (.map (some mp)) (.string (mkB p)) false).run Tryz.prog w = .ok (.pointer (some ⟨nb p, 0, none⟩)) w := by
  have := h.look p hp; rwa [hn] at this
theorem TreeIn.cell1 (h : TreeIn w tp mp nb T) : w.cell? ⟨tp, 1, none⟩ = some (.map (some mp)) := cell_of_blk h.box
theorem TreeIn.cell0 (h : TreeIn w tp mp nb T) : w.cell? ⟨tp, 0, none⟩ = some (.int .i64 T.room) := cell_of_blk h.box

set_option maxHeartbeats 1000000 in
set_option maxRecDepth 100000 in
theorem newT_bad (room : Int) (w : World) (h : room < 1 ∨ 500 < room) :
    Calls Tryz.prog 42 #[.int .i64 room] w fun e w' => e = .returned (.tuple #[.pointer none, .int .i64 1]) ∧ w = w' := by
  go_enter Tryz.func42, Tryz.ntmps42
  go_wp2
  all_goals first | omega | (go_ret2; exact ⟨rfl, rfl⟩)

set_option maxHeartbeats 1000000 in
set_option maxRecDepth 100000 in
theorem newT_any (room : Int) (w : World) (h1 : 1 ≤ room) (h5 : room ≤ 500) :
    Calls Tryz.prog 42 #[.int .i64 room] w fun e w' => e = .returned (.tuple #[.pointer (some ⟨w.heap.size + 1, 0, none⟩), .int .i64 0]) ∧ TreeIn w' (w.heap.size + 1) w.heap.size nb ⟨room, []⟩ ∧ Pu w w' := by
  go_enter Tryz.func42, Tryz.ntmps42
  go_wp2
  go_ret2
  exact ⟨rfl, ⟨al2b w _ _, (MapV.made w (fN nb)).pu (pu_alloc _ _), fun x hx => (nomatch hx), fun x hx => (nomatch hx)⟩, (pu_alloc _ _).tr (pu_alloc _ _)⟩

set_option maxHeartbeats 1000000 in
set_option maxRecDepth 100000 in
theorem lenT_any (w : World) (h : TreeIn w tp mp nb T) :
    Calls Tryz.prog 24 #[.pointer (some ⟨tp, 0, none⟩)] w fun e w' => e = .returned (.int .i64 T.nodes.length) ∧ w = w' := by
  have c1 := h.cell1
  have hl := fun ty => h.map.len Tryz.underlying115 ty
  clear h
  go_enter Tryz.func24, Tryz.ntmps24
  go_wp2
  go_ret
  exact ⟨rfl, rfl⟩

set_option maxHeartbeats 1000000 in
set_option maxRecDepth 100000 in
theorem failT_any (e : Int) (w : World) :
    Calls Tryz.prog 108 #[.int .i64 e] w fun x w' => x = .returned (.agg ((failRes e).cells (.slice none 0 0)).toArray) ∧ Pu w w' := by
  go_enter Tryz.func108, Tryz.ntmps108
  go_wp2
  exact bodyPost_ret (v := .agg ((failRes e).cells (.slice none 0 0)).toArray) (results_cell Tryz.results108 rfl (al1 w _) _ Tryz.underlying59 rfl sizeRes) rfl ⟨rfl, pu_alloc _ _⟩

set_option maxHeartbeats 1000000 in
set_option maxRecDepth 100000 in
theorem wrongV_any (o : OpD) (b : Nat) (n : NodeD) (w : World) (h : NodeAt w b n) :
    Calls Tryz.prog 141 #[o.val, .pointer (some ⟨b, 0, none⟩)] w fun x w' => x = .returned (.bool (wrongV o n)) ∧ Pu w w' := by
  obtain ⟨nv, h1, _⟩ := h
  have hb := lt_of_blk h1
  have hq := cell_of_blk (o := 2) h1
  clear h1
  obtain ⟨k, p, d, v, f⟩ := o
  have c2 : (w.alloc (.cells #[.int .i64 k, .string (mkB p), .string (mkB d), .int .i64 v, .int .i64 f] 50)).cell? ⟨b, 2, none⟩ = some (.int .i64 n.stat.version) := ((bcell (pu_alloc w _)).1 b 2 hb).trans hq
  clear hq
  by_cases hv : v = -1
  · subst hv
    have hw : wrongV ⟨k, p, d, -1, f⟩ n = false := by simp [wrongV]
    rw [hw]
    go_enter Tryz.func141, Tryz.ntmps141
    go_wp2
    go_quiet (fail)
    go_wp2
    go_ret
    exact ⟨rfl, (pu_alloc _ _).tr (pu_drewN _ _)⟩
  · have hw : wrongV ⟨k, p, d, v, f⟩ n = !(v == n.stat.version) := by simp [wrongV, hv, bne]
    rw [hw]
    have hd : decide (v = -1) = false := by simpa using hv
    have hd2 : (v == -1) = false := by simpa using hv
    have hd3 : (v != -1) = true := by simpa using hv
    go_enter Tryz.func141, Tryz.ntmps141
    go_wp2
    go_quiet (fail)
    go_wp2
    go_ret
    exact ⟨rfl, (pu_alloc _ _).tr (pu_drewN _ _)⟩


end Go.Proofs.YtmigbgfgnhkmnaaGreatDoor

/- tree.Tree.place. -/
namespace Go.Proofs.YtmigbgfgnhkmnaaGreatDoor
open Go.RowKit Go.Av

attribute [local go_sem ↓] Go.wp_at_zero Go.wp_at_succ
attribute [local go_sem] run_makeMap

variable {w w' : World} {tp mp : Nat} {nb : Str → Nat} {T : TreeD}

theorem pu_drew (w : World) : Pu w w.drew := ⟨rfl, rfl, rfl, Nat.le_refl _, fun _ _ => rfl⟩

/-- What place answers. -/
def placeV (r : Str × Int) : Value := .tuple #[.string (mkB r.1), .int .i64 r.2]

theorem node_cell8 {b : Nat} {n : NodeD} (h : NodeAt w b n) : w.cell? ⟨b, 8, none⟩ = some (.int .i64 n.next) := by obtain ⟨nv, h1, _⟩ := h; exact cell_of_blk h1
theorem parent_len {p up : Str} (h : parent p = some up) : up.length ≤ 201 := by
  unfold parent at h
  split at h
  · cases h
  · cases h
    have := joinS_dropLast p
    simp; omega

set_option maxHeartbeats 4000000 in
set_option maxRecDepth 100000 in
theorem place_none (o : OpD) (w : World) (h : TreeIn w tp mp nb T) (hp : o.path.length ≤ 1000) (hg : Gl w) (hpar : parent o.path = none) :
    Calls Tryz.prog 138 #[.pointer (some ⟨tp, 0, none⟩), o.val] w fun x w' => x = .returned (placeV (placeEnd T o.path)) ∧ Pu w w' := by
  have T0 := Lib.hid (h.pu (pu_alloc w (.cells o.cells.toArray 50)))
  have G0 := Lib.hid (hg.pu (pu_alloc w (.cells o.cells.toArray 50)))
  have B0 := Lib.hid (al1 w (.cells o.cells.toArray 50))
  have hlt : w.heap.size < (w.alloc (.cells o.cells.toArray 50)).heap.size := by simp
  clear h hg
  obtain ⟨k, p, d, v, f⟩ := o
  simp only at *
  have HP := Lib.hid hpar
  clear hpar
  cases hq : aget p T.nodes with
  | some m0 =>
    have e : placeEnd T p = ([], 5) := by simp [placeEnd, hq]
    rw [e]
    have HQ := Lib.hid hq
    clear hq e
    go_enter Tryz.func138, Tryz.ntmps138
    go_wp2_with ((go_at_call 95; refine (parent_any p _ (by omega) G0.out).mono ?_; rw [HP.out, parentV]; rintro e w1 ⟨rfl, hb1⟩; have T1 := Lib.hid (T0.out.pu hb1); have G1 := Lib.hid (G0.out.pu hb1); have c0 := T1.out.cell0; have c1 := T1.out.cell1; have l1 := T1.out.look_some p (by omega) HQ.out; have qb : w1.cell? ⟨w.heap.size, 4, none⟩ = some (.int .i64 f) := ((bcell hb1).1 w.heap.size 4 hlt).trans (cell_of_blk (o := 4) B0.out); have HB := Lib.hid hb1; clear hb1))
    go_ret2
    exact ⟨rfl, (pu_alloc _ _).tr HB.out⟩
  | none =>
    have e : placeEnd T p = if T.room ≤ T.nodes.length then ([], 9) else (p, 0) := by simp [placeEnd, hq]
    rw [e]
    have HQ := Lib.hid hq
    clear hq e
    go_enter Tryz.func138, Tryz.ntmps138
    go_wp2_with ((go_at_call 95; refine (parent_any p _ (by omega) G0.out).mono ?_; rw [HP.out, parentV]; rintro e w1 ⟨rfl, hb1⟩; have T1 := Lib.hid (T0.out.pu hb1); have G1 := Lib.hid (G0.out.pu hb1); have c0 := T1.out.cell0; have c1 := T1.out.cell1; have l1 := T1.out.look_none p (by omega) HQ.out; have n1 := (fun ty => (T1.out.pu (pu_drew w1)).map.len Tryz.underlying115 ty); have qb : w1.cell? ⟨w.heap.size, 4, none⟩ = some (.int .i64 f) := ((bcell hb1).1 w.heap.size 4 hlt).trans (cell_of_blk (o := 4) B0.out); have HB := Lib.hid hb1; clear hb1))
    go_region_with fail
    all_goals
      go_wp2
      all_goals
        go_ret2
        refine ⟨?_, (pu_alloc _ _).tr (HB.out.tr (pu_drew _))⟩
        first | (simp [placeV, *]; done) | (simp [placeV, *]; rfl)

set_option maxHeartbeats 4000000 in
set_option maxRecDepth 100000 in
theorem place_up0 (o : OpD) (w : World) (h : TreeIn w tp mp nb T) (hp : o.path.length ≤ 1000) (hg : Gl w) (up : Str) (hpar : parent o.path = some up) (hu : aget up T.nodes = none) :
    Calls Tryz.prog 138 #[.pointer (some ⟨tp, 0, none⟩), o.val] w fun x w' => x = .returned (placeV ([], 4)) ∧ Pu w w' := by
  have hup := parent_len hpar
  have T0 := Lib.hid (h.pu (pu_alloc w (.cells o.cells.toArray 50)))
  have G0 := Lib.hid (hg.pu (pu_alloc w (.cells o.cells.toArray 50)))
  have B0 := Lib.hid (al1 w (.cells o.cells.toArray 50))
  have hlt : w.heap.size < (w.alloc (.cells o.cells.toArray 50)).heap.size := by simp
  clear h hg
  obtain ⟨k, p, d, v, f⟩ := o
  simp only at *
  have HP := Lib.hid hpar
  have HU := Lib.hid hu
  clear hpar hu
  go_enter Tryz.func138, Tryz.ntmps138
  go_wp2_with ((go_at_call 95; refine (parent_any p _ (by omega) G0.out).mono ?_; rw [HP.out, parentV]; rintro e w1 ⟨rfl, hb1⟩; have T1 := Lib.hid (T0.out.pu hb1); have G1 := Lib.hid (G0.out.pu hb1); have c0 := T1.out.cell0; have c1 := T1.out.cell1; have l2 := T1.out.look_none up (by omega) HU.out; have qb : w1.cell? ⟨w.heap.size, 4, none⟩ = some (.int .i64 f) := ((bcell hb1).1 w.heap.size 4 hlt).trans (cell_of_blk (o := 4) B0.out); have HB := Lib.hid hb1; clear hb1))
  go_ret2
  exact ⟨rfl, (pu_alloc _ _).tr HB.out⟩

set_option maxHeartbeats 4000000 in
set_option maxRecDepth 100000 in
theorem place_eph (o : OpD) (w : World) (h : TreeIn w tp mp nb T) (hp : o.path.length ≤ 1000) (hg : Gl w) (up : Str) (hpar : parent o.path = some up) (n : NodeD) (hu : aget up T.nodes = some n) (hn : (n.stat.owner != 0) = true) :
    Calls Tryz.prog 138 #[.pointer (some ⟨tp, 0, none⟩), o.val] w fun x w' => x = .returned (placeV ([], 8)) ∧ Pu w w' := by
  have hup := parent_len hpar
  have T0 := Lib.hid (h.pu (pu_alloc w (.cells o.cells.toArray 50)))
  have G0 := Lib.hid (hg.pu (pu_alloc w (.cells o.cells.toArray 50)))
  have B0 := Lib.hid (al1 w (.cells o.cells.toArray 50))
  have hlt : w.heap.size < (w.alloc (.cells o.cells.toArray 50)).heap.size := by simp
  clear h hg
  obtain ⟨k, p, d, v, f⟩ := o
  simp only at *
  have HP := Lib.hid hpar
  have HU := Lib.hid hu
  have HN := Lib.hid hn
  clear hpar hu hn
  go_enter Tryz.func138, Tryz.ntmps138
  go_wp2_with (first | (go_at_call 95; refine (parent_any p _ (by omega) G0.out).mono ?_; rw [HP.out, parentV]; rintro e w1 ⟨rfl, hb1⟩; have T1 := Lib.hid (T0.out.pu hb1); have G1 := Lib.hid (G0.out.pu hb1); have c0 := T1.out.cell0; have c1 := T1.out.cell1; have l2 := T1.out.look_some up (by omega) HU.out; have e8 := node_cell8 (T1.out.node _ (aget_mem HU.out));  have qb : w1.cell? ⟨w.heap.size, 4, none⟩ = some (.int .i64 f) := ((bcell hb1).1 w.heap.size 4 hlt).trans (cell_of_blk (o := 4) B0.out); have HB := Lib.hid hb1; clear hb1) | (go_at_call 179; refine (ephemeral_any (nb up) n _ (T1.out.node _ (aget_mem HU.out))).mono ?_; rw [HN.out]; rintro e w2 ⟨rfl, rfl⟩))
  go_ret2
  exact ⟨rfl, (pu_alloc _ _).tr HB.out⟩

set_option maxHeartbeats 4000000 in
set_option maxRecDepth 100000 in
theorem place_plain (o : OpD) (w : World) (h : TreeIn w tp mp nb T) (hp : o.path.length ≤ 1000) (hg : Gl w) (up : Str) (hpar : parent o.path = some up) (n : NodeD) (hu : aget up T.nodes = some n) (hn : (n.stat.owner != 0) = false) (hs : seqB o.flags = false) :
    Calls Tryz.prog 138 #[.pointer (some ⟨tp, 0, none⟩), o.val] w fun x w' => x = .returned (placeV (placeEnd T o.path)) ∧ Pu w w' := by
  have hup := parent_len hpar
  have T0 := Lib.hid (h.pu (pu_alloc w (.cells o.cells.toArray 50)))
  have G0 := Lib.hid (hg.pu (pu_alloc w (.cells o.cells.toArray 50)))
  have B0 := Lib.hid (al1 w (.cells o.cells.toArray 50))
  have hlt : w.heap.size < (w.alloc (.cells o.cells.toArray 50)).heap.size := by simp
  clear h hg
  obtain ⟨k, p, d, v, f⟩ := o
  simp only at *
  have HP := Lib.hid hpar
  have HU := Lib.hid hu
  have HN := Lib.hid hn
  have hs1 : (bits BinOp.and IntKind.i64 f 2 == 0) = true := by simpa [seqB] using hs
  clear hpar hu hn hs
  cases hq : aget p T.nodes with
  | some m0 =>
    have e : placeEnd T p = ([], 5) := by simp [placeEnd, hq]
    rw [e]
    have HQ := Lib.hid hq
    clear hq e
    go_enter Tryz.func138, Tryz.ntmps138
    go_wp2_with (first | (go_at_call 95; refine (parent_any p _ (by omega) G0.out).mono ?_; rw [HP.out, parentV]; rintro e w1 ⟨rfl, hb1⟩; have T1 := Lib.hid (T0.out.pu hb1); have G1 := Lib.hid (G0.out.pu hb1); have c0 := T1.out.cell0; have c1 := T1.out.cell1; have l2 := T1.out.look_some up (by omega) HU.out; have e8 := node_cell8 (T1.out.node _ (aget_mem HU.out)); have l1 := T1.out.look_some p (by omega) HQ.out; have qb : w1.cell? ⟨w.heap.size, 4, none⟩ = some (.int .i64 f) := ((bcell hb1).1 w.heap.size 4 hlt).trans (cell_of_blk (o := 4) B0.out); have HB := Lib.hid hb1; clear hb1) | (go_at_call 179; refine (ephemeral_any (nb up) n _ (T1.out.node _ (aget_mem HU.out))).mono ?_; rw [HN.out]; rintro e w2 ⟨rfl, rfl⟩))
    go_ret2
    exact ⟨rfl, (pu_alloc _ _).tr HB.out⟩
  | none =>
    have e : placeEnd T p = if T.room ≤ T.nodes.length then ([], 9) else (p, 0) := by simp [placeEnd, hq]
    rw [e]
    have HQ := Lib.hid hq
    clear hq e
    go_enter Tryz.func138, Tryz.ntmps138
    go_wp2_with (first | (go_at_call 95; refine (parent_any p _ (by omega) G0.out).mono ?_; rw [HP.out, parentV]; rintro e w1 ⟨rfl, hb1⟩; have T1 := Lib.hid (T0.out.pu hb1); have G1 := Lib.hid (G0.out.pu hb1); have c0 := T1.out.cell0; have c1 := T1.out.cell1; have l2 := T1.out.look_some up (by omega) HU.out; have e8 := node_cell8 (T1.out.node _ (aget_mem HU.out)); have l1 := T1.out.look_none p (by omega) HQ.out; have n1 := (fun ty => (T1.out.pu (pu_drew w1)).map.len Tryz.underlying115 ty); have qb : w1.cell? ⟨w.heap.size, 4, none⟩ = some (.int .i64 f) := ((bcell hb1).1 w.heap.size 4 hlt).trans (cell_of_blk (o := 4) B0.out); have HB := Lib.hid hb1; clear hb1) | (go_at_call 179; refine (ephemeral_any (nb up) n _ (T1.out.node _ (aget_mem HU.out))).mono ?_; rw [HN.out]; rintro e w2 ⟨rfl, rfl⟩))
    go_region_with fail
    all_goals
      go_wp2
      all_goals
        go_ret2
        refine ⟨?_, (pu_alloc _ _).tr (HB.out.tr (pu_drew _))⟩
        first | (simp [placeV, *]; done) | (simp [placeV, *]; rfl)

set_option maxHeartbeats 4000000 in
set_option maxRecDepth 100000 in
theorem place_nonum (o : OpD) (w : World) (h : TreeIn w tp mp nb T) (hp : o.path.length ≤ 1000) (hg : Gl w) (up : Str) (hpar : parent o.path = some up) (n : NodeD) (hu : aget up T.nodes = some n) (hn : (n.stat.owner != 0) = false) (hs : seqB o.flags = true) (hnum : number o.path n.next = none) :
    Calls Tryz.prog 138 #[.pointer (some ⟨tp, 0, none⟩), o.val] w fun x w' => x = .returned (placeV ([], 1)) ∧ Pu w w' := by
  have hup := parent_len hpar
  have T0 := Lib.hid (h.pu (pu_alloc w (.cells o.cells.toArray 50)))
  have G0 := Lib.hid (hg.pu (pu_alloc w (.cells o.cells.toArray 50)))
  have B0 := Lib.hid (al1 w (.cells o.cells.toArray 50))
  have hlt : w.heap.size < (w.alloc (.cells o.cells.toArray 50)).heap.size := by simp
  clear h hg
  obtain ⟨k, p, d, v, f⟩ := o
  simp only at *
  have HP := Lib.hid hpar
  have HU := Lib.hid hu
  have HN := Lib.hid hn
  have HNum := Lib.hid hnum
  have hs1 : (bits BinOp.and IntKind.i64 f 2 == 0) = false := by simpa [seqB] using hs
  clear hpar hu hn hs hnum
  go_enter Tryz.func138, Tryz.ntmps138
  go_wp2_with (first | (go_at_call 95; refine (parent_any p _ (by omega) G0.out).mono ?_; rw [HP.out, parentV]; rintro e w1 ⟨rfl, hb1⟩; have T1 := Lib.hid (T0.out.pu hb1); have G1 := Lib.hid (G0.out.pu hb1); have c0 := T1.out.cell0; have c1 := T1.out.cell1; have l2 := T1.out.look_some up (by omega) HU.out; have e8 := node_cell8 (T1.out.node _ (aget_mem HU.out));  have qb : w1.cell? ⟨w.heap.size, 4, none⟩ = some (.int .i64 f) := ((bcell hb1).1 w.heap.size 4 hlt).trans (cell_of_blk (o := 4) B0.out); have HB := Lib.hid hb1; clear hb1) | (go_at_call 179; refine (ephemeral_any (nb up) n _ (T1.out.node _ (aget_mem HU.out))).mono ?_; rw [HN.out]; rintro e w2 ⟨rfl, rfl⟩) | (go_at_call 137; refine (number_any p n.next _ (by omega) G1.out).mono ?_; rw [HNum.out, numberV]; rintro e w2 ⟨rfl, hb2⟩))
  go_ret2
  exact ⟨rfl, (pu_alloc _ _).tr (HB.out.tr hb2)⟩

set_option maxHeartbeats 4000000 in
set_option maxRecDepth 100000 in
theorem place_num (o : OpD) (w : World) (h : TreeIn w tp mp nb T) (hp : o.path.length ≤ 1000) (hg : Gl w) (up : Str) (hpar : parent o.path = some up) (n : NodeD) (hu : aget up T.nodes = some n) (hn : (n.stat.owner != 0) = false) (hs : seqB o.flags = true) (q : Str) (hnum : number o.path n.next = some q) :
    Calls Tryz.prog 138 #[.pointer (some ⟨tp, 0, none⟩), o.val] w fun x w' => x = .returned (placeV (placeEnd T q)) ∧ Pu w w' := by
  have hup := parent_len hpar
  have hql := good_len (number_good hnum)
  have T0 := Lib.hid (h.pu (pu_alloc w (.cells o.cells.toArray 50)))
  have G0 := Lib.hid (hg.pu (pu_alloc w (.cells o.cells.toArray 50)))
  have B0 := Lib.hid (al1 w (.cells o.cells.toArray 50))
  have hlt : w.heap.size < (w.alloc (.cells o.cells.toArray 50)).heap.size := by simp
  clear h hg
  obtain ⟨k, p, d, v, f⟩ := o
  simp only at *
  have HP := Lib.hid hpar
  have HU := Lib.hid hu
  have HN := Lib.hid hn
  have HNum := Lib.hid hnum
  have hs1 : (bits BinOp.and IntKind.i64 f 2 == 0) = false := by simpa [seqB] using hs
  clear hpar hu hn hs hnum
  cases hq : aget q T.nodes with
  | some m0 =>
    have e : placeEnd T q = ([], 5) := by simp [placeEnd, hq]
    rw [e]
    have HQ := Lib.hid hq
    clear hq e
    go_enter Tryz.func138, Tryz.ntmps138
    go_wp2_with (first | (go_at_call 95; refine (parent_any p _ (by omega) G0.out).mono ?_; rw [HP.out, parentV]; rintro e w1 ⟨rfl, hb1⟩; have T1 := Lib.hid (T0.out.pu hb1); have G1 := Lib.hid (G0.out.pu hb1); have c0 := T1.out.cell0; have c1 := T1.out.cell1; have l2 := T1.out.look_some up (by omega) HU.out; have e8 := node_cell8 (T1.out.node _ (aget_mem HU.out));  have qb : w1.cell? ⟨w.heap.size, 4, none⟩ = some (.int .i64 f) := ((bcell hb1).1 w.heap.size 4 hlt).trans (cell_of_blk (o := 4) B0.out); have HB := Lib.hid hb1; clear hb1) | (go_at_call 179; refine (ephemeral_any (nb up) n _ (T1.out.node _ (aget_mem HU.out))).mono ?_; rw [HN.out]; rintro e w2 ⟨rfl, rfl⟩) | (go_at_call 137; refine (number_any p n.next _ (by omega) G1.out).mono ?_; rw [HNum.out, numberV]; rintro e w2 ⟨rfl, hb2⟩; have T2 := Lib.hid (T1.out.pu hb2); have c02 := T2.out.cell0; have c12 := T2.out.cell1; have l1 := T2.out.look_some q (by omega) HQ.out; have HB2 := Lib.hid hb2; clear hb2))
    go_ret2
    exact ⟨rfl, (pu_alloc _ _).tr (HB.out.tr HB2.out)⟩
  | none =>
    have e : placeEnd T q = if T.room ≤ T.nodes.length then ([], 9) else (q, 0) := by simp [placeEnd, hq]
    rw [e]
    have HQ := Lib.hid hq
    clear hq e
    go_enter Tryz.func138, Tryz.ntmps138
    go_wp2_with (first | (go_at_call 95; refine (parent_any p _ (by omega) G0.out).mono ?_; rw [HP.out, parentV]; rintro e w1 ⟨rfl, hb1⟩; have T1 := Lib.hid (T0.out.pu hb1); have G1 := Lib.hid (G0.out.pu hb1); have c0 := T1.out.cell0; have c1 := T1.out.cell1; have l2 := T1.out.look_some up (by omega) HU.out; have e8 := node_cell8 (T1.out.node _ (aget_mem HU.out));  have qb : w1.cell? ⟨w.heap.size, 4, none⟩ = some (.int .i64 f) := ((bcell hb1).1 w.heap.size 4 hlt).trans (cell_of_blk (o := 4) B0.out); have HB := Lib.hid hb1; clear hb1) | (go_at_call 179; refine (ephemeral_any (nb up) n _ (T1.out.node _ (aget_mem HU.out))).mono ?_; rw [HN.out]; rintro e w2 ⟨rfl, rfl⟩) | (go_at_call 137; refine (number_any p n.next _ (by omega) G1.out).mono ?_; rw [HNum.out, numberV]; rintro e w2 ⟨rfl, hb2⟩; have T2 := Lib.hid (T1.out.pu hb2); have c02 := T2.out.cell0; have c12 := T2.out.cell1; have l1 := T2.out.look_none q (by omega) HQ.out; have n1 := (fun ty => (T2.out.pu (pu_drew w2)).map.len Tryz.underlying115 ty); have HB2 := Lib.hid hb2; clear hb2))
    go_region_with fail
    all_goals
      go_wp2
      all_goals
        go_ret2
        refine ⟨?_, (pu_alloc _ _).tr (HB.out.tr (HB2.out.tr (pu_drew _)))⟩
        first | (simp [placeV, *]; done) | (simp [placeV, *]; rfl)

theorem place_any (o : OpD) (w : World) (h : TreeIn w tp mp nb T) (hp : o.path.length ≤ 1000) (hg : Gl w) :
    Calls Tryz.prog 138 #[.pointer (some ⟨tp, 0, none⟩), o.val] w fun x w' => x = .returned (placeV (placeT T o)) ∧ Pu w w' := by
  unfold placeT
  split
  · rename_i hpar; exact place_none o w h hp hg hpar
  · rename_i up hpar
    split
    · rename_i hu; exact place_up0 o w h hp hg up hpar hu
    · rename_i n hu
      split
      · rename_i hn; exact place_eph o w h hp hg up hpar n hu hn
      · rename_i hn
        have hn' : (n.stat.owner != 0) = false := by simpa using hn
        split
        · rename_i hs
          split
          · rename_i hnum; exact place_nonum o w h hp hg up hpar n hu hn' hs hnum
          · rename_i q hnum; exact place_num o w h hp hg up hpar n hu hn' hs q hnum
        · rename_i hs; exact place_plain o w h hp hg up hpar n hu hn' (by simpa using hs)

end Go.Proofs.YtmigbgfgnhkmnaaGreatDoor

/- tree.Tree: lay, Remove. -/
namespace Go.Proofs.YtmigbgfgnhkmnaaGreatDoor
open Go.RowKit Go.Av

attribute [local go_sem ↓] Go.wp_at_zero Go.wp_at_succ
attribute [local go_sem] run_makeMap

variable {w w' : World} {tp mp : Nat} {nb : Str → Nat} {T : TreeD}

/-- The library's variables lie below this block. -/
def gB : Nat := max 0 3 + 1
theorem Gl.fr {M : Nat → Prop} (h : Gl w) (k : Fr M w w') (hM : ∀ b, M b → gB ≤ b) : Gl w' := by
  obtain ⟨⟨m, h1⟩, h2, h3, h4⟩ := h
  have hle : gB ≤ w.heap.size := by unfold gB; omega
  have hp : Below gB w w' := ⟨k.os, k.tape, k.output, k.size, fun i hi => k.keep i (by omega) fun hm => by have := hM i hm; omega⟩
  have a1 : 0 < gB := by unfold gB; omega
  have a2 : 3 < gB := by unfold gB; omega
  exact ⟨⟨m, by rw [hp.cell a1]; exact h1⟩, Nat.lt_of_lt_of_le h2 hp.size, Nat.lt_of_lt_of_le h3 hp.size, var?_below hp (by kernel_rfl) a2 h4⟩

/-- Strictly rising keys are told by who they are. -/
theorem keys_aput {l : List (Str × NodeD)} (h : asorted l) {k : Str} {v m : NodeD} (hg : aget k l = some v) : (aput k m l).map (·.1) = l.map (·.1) := by
  have key : ∀ l' : List (Str × NodeD), asorted l' → asorted (l'.map fun e => (e.1, ())) := fun l' h' => by
    unfold asorted at *
    rw [List.pairwise_map]; exact h'
  have e := asorted_ext (key _ (aput_sorted (v := m) h)) (key _ h) fun j => by
    refine Option.ext fun u => ?_
    rw [aget_iff (key _ (aput_sorted h)), aget_iff (key _ h)]
    simp only [List.mem_map, Prod.mk.injEq]
    constructor
    · rintro ⟨x, hx, rfl, _⟩
      rcases mem_aput.1 hx with rfl | ⟨hx, _⟩
      · exact ⟨_, aget_mem hg, rfl, trivial⟩
      · exact ⟨x, hx, rfl, trivial⟩
    · rintro ⟨x, hx, rfl, _⟩
      by_cases e : x.1 = k
      · exact ⟨(k, m), mem_aput.2 (.inl rfl), e.symm, trivial⟩
      · exact ⟨x, mem_aput.2 (.inr ⟨hx, e⟩), rfl, trivial⟩
  have := congrArg (List.map (·.1)) e
  simpa [List.map_map, Function.comp_def] using this
theorem enc_fN (nb : Str → Nat) (l : List (Str × NodeD)) : enc (fN nb) l = (l.map (·.1)).map fun k => (Key.lit k, DataW.held (.pointer (some ⟨nb k, 0, none⟩))) := by
  simp [enc, fN, List.map_map, Function.comp_def]

def updN (nb : Str → Nat) (p : Str) (b : Nat) : Str → Nat := fun q => if q = p then b else nb q

theorem mapTurned_cells (ht : w.mapTurned w' mp) {b : Nat} {c : Array Value} {t : TypeId} {fr : Nat × Nat} (hb : w.heap[b]? = some (.cells c t fr)) : w'.heap[b]? = some (.cells c t fr) := by
  have hne : b ≠ mp := by
    rintro rfl
    obtain ⟨es, clock, es', clock', hb', _⟩ := ht
    rw [hb'] at hb; cases hb
  rw [← hb]
  exact (turned_fr ht).keep b (lt_of_blk hb) hne
theorem NodeAt.turned {b : Nat} {n : NodeD} (h : NodeAt w b n) (ht : w.mapTurned w' mp) : NodeAt w' b n := by
  obtain ⟨nv, h1, h2⟩ := h
  exact ⟨nv, mapTurned_cells ht h1, Sl.keep h2 fun i c fr hi => (mapTurned_cells ht hi).trans hi.symm⟩

/-- A node laid into the map. -/
theorem TreeIn.put (h : TreeIn w tp mp nb T) (hl : T.nodes.length ≤ 1000) {b : Nat} {n : NodeD} (hn : NodeAt w b n) (hb : ¬ Foot tp mp nb T b) (p : Str) (hp : p.length ≤ 1000000) :
    ∃ w', (Instr.mapUpdate 115 (.map (some mp)) (.string (mkB p)) (.pointer (some ⟨b, 0, none⟩))).run Tryz.prog w = .ok () w' ∧ TreeIn w' tp mp (updN nb p b) { T with nodes := aput p n T.nodes } ∧ w.mapTurned w' mp := by
  obtain ⟨w', h1, h2, h3⟩ := h.map.store (f' := fN (updN nb p b)) TS Tryz.underlying115 (by unfold maxLen; omega) p n (by unfold maxLen; omega) (fun x _ hx => by simp [fN, updN, hx])
  have e : fN (updN nb p b) p n = .pointer (some ⟨b, 0, none⟩) := by simp [fN, updN]
  rw [e] at h1
  refine ⟨w', h1, ⟨mapTurned_cells h3 h.box, h2, fun x hx => ?_, fun x hx y hy hxy => ?_⟩, h3⟩
  · rcases mem_aput.1 hx with rfl | ⟨hx, hne⟩
    · simp only [updN, if_true]; exact hn.turned h3
    · simp only [updN, if_neg hne]; exact (h.node x hx).turned h3
  · rcases mem_aput.1 hx with rfl | ⟨hx, hne⟩
    · rcases mem_aput.1 hy with rfl | ⟨hy, hne'⟩
      · rfl
      · simp only [updN, if_true, if_neg hne'] at hxy
        exact absurd (.inr (.inr ⟨y, hy, hxy⟩)) hb
    · rcases mem_aput.1 hy with rfl | ⟨hy, hne'⟩
      · simp only [updN, if_true, if_neg hne] at hxy
        exact absurd (.inr (.inr ⟨x, hx, hxy.symm⟩)) hb
      · simp only [updN, if_neg hne, if_neg hne'] at hxy
        exact h.inj x hx y hy hxy
/-- A node let go. -/
theorem TreeIn.del (h : TreeIn w tp mp nb T) (p : Str) (hp : p.length ≤ 1000000) (ty : TypeId) :
    ∃ w', (Builtin.delete_ #[115, 9] ty #[.map (some mp), .string (mkB p)]).run Tryz.prog w = .ok (.tuple #[]) w' ∧ TreeIn w' tp mp nb { T with nodes := adel p T.nodes } ∧ w.mapTurned w' mp := by
  obtain ⟨w', h1, h2, h3⟩ := h.map.drop TS Tryz.underlying115 p (by unfold maxLen; omega) ty
  refine ⟨w', h1, ⟨mapTurned_cells h3 h.box, h2, fun x hx => (h.node x (mem_adel.1 hx).1).turned h3, fun x hx y hy hxy => h.inj x (mem_adel.1 hx).1 y (mem_adel.1 hy).1 hxy⟩, h3⟩
/-- A node changed where it lies. -/
theorem TreeIn.change (h : TreeIn w tp mp nb T) (hr : asorted T.nodes) {up : Str} {n m : NodeD} (hg : aget up T.nodes = some n) (hm : NodeAt w' (nb up) m) (hf : Fr (fun b => b = nb up) w w') : TreeIn w' tp mp nb { T with nodes := aput up m T.nodes } := by
  have hmem := aget_mem hg
  obtain ⟨nv, hn, _⟩ := h.node _ hmem
  have ne : ∀ {b : Nat} {o : Obj}, w.heap[b]? = some o → (∀ c t fr, o = .cells c t fr → t ≠ 124) → b ≠ nb up := fun {b o} hb ho e => by
    rw [e, hn] at hb; cases hb
    exact ho _ _ _ rfl rfl
  refine ⟨(hf.keep tp (lt_of_blk h.box) (ne h.box (fun c t fr e => by cases e; decide))).trans h.box, ?_, fun x hx => ?_, fun x hx y hy hxy => ?_⟩
  · have hmap := h.map
    obtain ⟨es, c, hmb⟩ := hmap.isMap
    have := hmap.keep (w' := w') (hf.keep mp hmap.lt (ne hmb (fun c t fr e => by cases e)))
    unfold MapV at this ⊢
    rw [enc_fN, keys_aput hr hg, ← enc_fN]
    have e2 : (aput up m T.nodes).length = T.nodes.length := by
      have := congrArg List.length (keys_aput (m := m) hr hg)
      simpa using this
    rw [e2]; exact this
  · rcases mem_aput.1 hx with rfl | ⟨hx, hne⟩
    · exact hm
    · obtain ⟨nv', h1, h2⟩ := h.node x hx
      have hxb : nb x.1 ≠ nb up := fun e => hne (h.inj x hx _ hmem e)
      refine ⟨nv', (hf.keep _ (lt_of_blk h1) hxb).trans h1, Sl.keep h2 fun i c fr hi => hf.keep i (lt_of_blk hi) (ne hi (fun c t fr e => by cases e; decide))⟩
  · have key : ∀ z ∈ aput up m T.nodes, ∃ z' ∈ T.nodes, z'.1 = z.1 := fun z hz => by
      rcases mem_aput.1 hz with rfl | ⟨hz, _⟩
      · exact ⟨_, hmem, rfl⟩
      · exact ⟨z, hz, rfl⟩
    obtain ⟨x', hx', e1⟩ := key x hx
    obtain ⟨y', hy', e2⟩ := key y hy
    have := h.inj x' hx' y' hy' (by rw [e1, e2]; exact hxy)
    rw [← e1, ← e2]; exact this

/-- A step of the tree in its place. -/
def TreeStep (w : World) (tp mp : Nat) (nb : Str → Nat) (T T' : TreeD) (w' : World) : Prop :=
  ∃ nb', TreeIn w' tp mp nb' T' ∧ Fr (Foot tp mp nb T) w w' ∧ ∀ b, Foot tp mp nb' T' b → Foot tp mp nb T b ∨ w.heap.size ≤ b

theorem TreeStep.refl (h : TreeIn w tp mp nb T) (hp : Pu w w') : TreeStep w tp mp nb T T w' := ⟨nb, h.pu hp, Fr.of_below hp, fun _ hb => .inl hb⟩

theorem add_any (b : Nat) (n : NodeD) (x : Str) (w : World) (h : NodeAt w b n) (ho : NodeOk n) :
    Calls Tryz.prog 180 #[.pointer (some ⟨b, 0, none⟩), .string (mkB x)] w fun e w' => (∃ r, e = .returned (.bool r)) ∧ NodeAt w' b (addN n x) ∧ Fr (fun x => x = b) w w' := by
  by_cases hx : x ∈ n.names
  · refine (add_old b n x w h ho hx).mono ?_
    rintro e w1 ⟨rfl, hb1⟩
    exact ⟨⟨_, rfl⟩, by simpa [addN, hx] using h.pu hb1, Fr.of_below hb1⟩
  · refine (add_new b n x w h ho hx).mono ?_
    rintro e w1 ⟨rfl, h1, h2⟩
    exact ⟨⟨_, rfl⟩, h1, h2⟩
theorem rem_any (b : Nat) (n : NodeD) (x : Str) (w : World) (h : NodeAt w b n) (ho : NodeOk n) :
    Calls Tryz.prog 131 #[.pointer (some ⟨b, 0, none⟩), .string (mkB x)] w fun e w' => (∃ r, e = .returned (.bool r)) ∧ NodeAt w' b (removeN n x) ∧ Fr (fun x => x = b) w w' := by
  by_cases hx : x ∈ n.names
  · refine (remove_old b n x w h ho hx).mono ?_
    rintro e w1 ⟨rfl, h1, h2⟩
    exact ⟨⟨_, rfl⟩, h1, h2⟩
  · refine (remove_none b n x w h ho hx).mono ?_
    rintro e w1 ⟨rfl, hb1⟩
    exact ⟨⟨_, rfl⟩, by simpa [removeN, hx] using h.pu hb1, Fr.of_below hb1⟩


/-- Behind the map's turn: the parent's names. -/
theorem TreeStep.kid {w2 w4 : World} {T1 : TreeD} {nb' : Str → Nat} (h2 : TreeIn w2 tp mp nb' T1) (hr : asorted T1.nodes) (hf2 : Fr (Foot tp mp nb T) w w2) (hsub : ∀ b, Foot tp mp nb' T1 b → Foot tp mp nb T b ∨ w.heap.size ≤ b) {up : Str} {n m : NodeD} (hg : aget up T1.nodes = some n)
    {w3 : World} (hp : Pu w2 w3) (hm : NodeAt w4 (nb' up) m) (hf : Fr (fun b => b = nb' up) w3 w4) : TreeStep w tp mp nb T { T1 with nodes := aput up m T1.nodes } w4 := by
  have h3 := h2.pu hp
  have hin : Foot tp mp nb' T1 (nb' up) := .inr (.inr ⟨_, aget_mem hg, rfl⟩)
  refine ⟨nb', h3.change hr hg hm hf, ?_, fun b hb => hsub b ?_⟩
  · refine (hf2.trans (Fr.of_below (M := fun _ => False) hp) fun _ _ h => h.elim).trans hf fun x hx e => ?_
    subst e
    rcases hsub _ hin with h | h
    · exact h
    · omega
  · rcases hb with h | h | ⟨x, hx, rfl⟩
    · exact .inl h
    · exact .inr (.inl h)
    · rcases mem_aput.1 hx with rfl | ⟨hx, _⟩
      · exact hin
      · exact .inr (.inr ⟨x, hx, rfl⟩)

set_option maxHeartbeats 4000000 in
set_option maxRecDepth 100000 in
theorem lay_any (p : Str) (n : NodeD) (nv : Value) (w : World) (h : TreeIn w tp mp nb T) (hr : asorted T.nodes) (hl : T.nodes.length ≤ 1000) (hok : ∀ x ∈ aput p n T.nodes, NodeOk x.2) (hp : p.length ≤ 1000) (hnv : SlS 9 w nv n.names) (hg : Gl w) (hlow : ∀ b, Foot tp mp nb T b → gB ≤ b) :
    Calls Tryz.prog 140 #[.pointer (some ⟨tp, 0, none⟩), .string (mkB p), .agg (n.cells nv).toArray] w fun x w' => x = .returned (.tuple #[]) ∧ TreeStep w tp mp nb T (layT T p n) w' := by
  have T0 := h.pu (pu_alloc w (.cells (n.cells nv).toArray 124))
  have N0 : NodeAt (w.alloc (.cells (n.cells nv).toArray 124)) w.heap.size n := ⟨nv, al1 _ _, hnv.pu (pu_alloc _ _)⟩
  obtain ⟨w2, hst, T2, ht⟩ := T0.put hl N0 (fun hb => by have := h.lt hb; omega) p (by omega)
  have F2 : Fr (Foot tp mp nb T) w w2 := (Fr.of_below (pu_alloc _ _)).trans (turned_fr ht) fun x _ e => by subst e; exact .inr (.inl rfl)
  have S2 : ∀ b, Foot tp mp (updN nb p w.heap.size) { T with nodes := aput p n T.nodes } b → Foot tp mp nb T b ∨ w.heap.size ≤ b := by
    rintro b (hb | hb | ⟨x, hx, rfl⟩)
    · exact .inl (.inl hb)
    · exact .inl (.inr (.inl hb))
    · rcases mem_aput.1 hx with rfl | ⟨hx, hne⟩
      · right; simp [updN]
      · left; simp only [updN, if_neg hne]; exact .inr (.inr ⟨x, hx, rfl⟩)
  have gB : Gl w2 := hg.fr F2 hlow
  have c1 := T0.cell1
  have HT0 := Lib.hid T0
  have HT2 := Lib.hid T2
  have HF2 := Lib.hid F2
  have HS2 := Lib.hid S2
  have HG2 := Lib.hid gB
  have Hok := Lib.hid hok
  have d1 := T2.cell1
  have hlt2 : tp < w2.heap.size := lt_of_blk T2.box
  clear T0 N0 T2 F2 S2 gB hok ht h hnv hg
  simp only [NodeD.cells] at hst c1
  cases hpar : parent p with
  | none =>
    have e : layT T p n = { T with nodes := aput p n T.nodes } := by simp [layT, onParent, hpar]
    rw [e]
    have HP := Lib.hid hpar
    clear hpar e
    go_enter Tryz.func140, Tryz.ntmps140
    go_wp2_with (go_at_call 95; refine (parent_any p _ (by omega) HG2.out).mono ?_; rw [HP.out, parentV]; rintro e w3 ⟨rfl, hb3⟩; have HB3 := Lib.hid hb3; clear hb3)
    go_end0
    exact ⟨rfl, _, HT2.out.pu HB3.out, HF2.out.trans (Fr.of_below (M := fun _ => False) HB3.out) (fun _ _ h => h.elim), HS2.out⟩
  | some up =>
    have hup := parent_len hpar
    cases hu : aget up (aput p n T.nodes) with
    | none =>
      have e : layT T p n = { T with nodes := aput p n T.nodes } := by simp [layT, onParent, hpar, hu]
      rw [e]
      have HP := Lib.hid hpar
      have HU := Lib.hid hu
      clear hpar e hu
      go_enter Tryz.func140, Tryz.ntmps140
      go_wp2_with (go_at_call 95; refine (parent_any p _ (by omega) HG2.out).mono ?_; rw [HP.out, parentV]; rintro e w3 ⟨rfl, hb3⟩; have T3 := Lib.hid (HT2.out.pu hb3); have e1 := T3.out.cell1; have l3 := T3.out.look_none up (by omega) HU.out; have HB3 := Lib.hid hb3; clear hb3)
      go_end0
      exact ⟨rfl, _, T3.out, HF2.out.trans (Fr.of_below (M := fun _ => False) HB3.out) (fun _ _ h => h.elim), HS2.out⟩
    | some m =>
      have e : layT T p n = { T with nodes := aput up (addN m (nameOf p)) (aput p n T.nodes) } := by simp [layT, onParent, hpar, hu]
      rw [e]
      have HP := Lib.hid hpar
      have HU := Lib.hid hu
      have hs : asorted (aput p n T.nodes) := aput_sorted hr
      have Hs := Lib.hid hs
      clear hpar e hu hs
      go_enter Tryz.func140, Tryz.ntmps140
      go_wp2_with (go_at_call 95; refine (parent_any p _ (by omega) HG2.out).mono ?_; rw [HP.out, parentV]; rintro e w3 ⟨rfl, hb3⟩; have T3 := Lib.hid (HT2.out.pu hb3); have G3 := Lib.hid (HG2.out.pu (hb3.tr (pu_drew _))); have e1 := T3.out.cell1; have l3 := T3.out.look_some up (by omega) HU.out; have l4 := (T3.out.pu (pu_drew _)).look_some up (by omega) HU.out; have HB3 := Lib.hid hb3; clear hb3)
      go_region_with (first
        | (go_at_call 132; refine (nameOf_any p _ (by omega) G3.out).mono ?_; rintro e w4 ⟨rfl, hb4⟩; have T4 := Lib.hid ((T3.out.pu (pu_drew _)).pu hb4); have f1 := T4.out.cell1; have l5 := T4.out.look_some up (by omega) HU.out; have HB4 := Lib.hid hb4; clear hb4)
        | (go_at_call 180; refine (add_any _ m (nameOf p) _ (T4.out.node _ (aget_mem HU.out)) (Hok.out _ (aget_mem HU.out))).mono ?_; rintro e w5 ⟨⟨r, rfl⟩, hn5, hf5⟩))
      all_goals
        go_wp2
        go_end0
        exact ⟨rfl, TreeStep.kid HT2.out Hs.out HF2.out HS2.out HU.out ((HB3.out.tr (pu_drew _)).tr HB4.out) hn5 hf5⟩


set_option maxHeartbeats 4000000 in
set_option maxRecDepth 100000 in
theorem removeT_any (p : Str) (w : World) (h : TreeIn w tp mp nb T) (hr : asorted T.nodes) (hok : ∀ x ∈ T.nodes, NodeOk x.2) (hp : p.length ≤ 1000) (hg : Gl w) (hlow : ∀ b, Foot tp mp nb T b → gB ≤ b) :
    Calls Tryz.prog 100 #[.pointer (some ⟨tp, 0, none⟩), .string (mkB p)] w fun x w' => x = .returned (.tuple #[]) ∧ TreeStep w tp mp nb T (removeT T p) w' := by
  obtain ⟨w2, hst, T2, ht⟩ := h.del p (by omega) 0
  have F2 : Fr (Foot tp mp nb T) w w2 := (turned_fr ht).mono fun x _ e => by subst e; exact .inr (.inl rfl)
  have S2 : ∀ b, Foot tp mp nb { T with nodes := adel p T.nodes } b → Foot tp mp nb T b ∨ w.heap.size ≤ b := by
    rintro b (hb | hb | ⟨x, hx, rfl⟩)
    · exact .inl (.inl hb)
    · exact .inl (.inr (.inl hb))
    · exact .inl (.inr (.inr ⟨x, (mem_adel.1 hx).1, rfl⟩))
  have gB : Gl w2 := hg.fr F2 hlow
  have c1 := h.cell1
  have HT2 := Lib.hid T2
  have HF2 := Lib.hid F2
  have HS2 := Lib.hid S2
  have HG2 := Lib.hid gB
  have Hok := Lib.hid hok
  have d1 := T2.cell1
  have hlt2 : tp < w2.heap.size := lt_of_blk T2.box
  clear T2 F2 S2 gB hok ht h hg
  cases hpar : parent p with
  | none =>
    have e : removeT T p = { T with nodes := adel p T.nodes } := by simp [removeT, onParent, hpar]
    rw [e]
    have HP := Lib.hid hpar
    clear hpar e
    go_enter Tryz.func100, Tryz.ntmps100
    go_wp2_with (go_at_call 95; refine (parent_any p _ (by omega) HG2.out).mono ?_; rw [HP.out, parentV]; rintro e w3 ⟨rfl, hb3⟩; have HB3 := Lib.hid hb3; clear hb3)
    go_end0
    exact ⟨rfl, _, HT2.out.pu HB3.out, HF2.out.trans (Fr.of_below (M := fun _ => False) HB3.out) (fun _ _ h => h.elim), HS2.out⟩
  | some up =>
    have hup := parent_len hpar
    cases hu : aget up (adel p T.nodes) with
    | none =>
      have e : removeT T p = { T with nodes := adel p T.nodes } := by simp [removeT, onParent, hpar, hu]
      rw [e]
      have HP := Lib.hid hpar
      have HU := Lib.hid hu
      clear hpar e hu
      go_enter Tryz.func100, Tryz.ntmps100
      go_wp2_with (go_at_call 95; refine (parent_any p _ (by omega) HG2.out).mono ?_; rw [HP.out, parentV]; rintro e w3 ⟨rfl, hb3⟩; have T3 := Lib.hid (HT2.out.pu hb3); have e1 := T3.out.cell1; have l3 := T3.out.look_none up (by omega) HU.out; have HB3 := Lib.hid hb3; clear hb3)
      go_end0
      exact ⟨rfl, _, T3.out, HF2.out.trans (Fr.of_below (M := fun _ => False) HB3.out) (fun _ _ h => h.elim), HS2.out⟩
    | some m =>
      have e : removeT T p = { T with nodes := aput up (removeN m (nameOf p)) (adel p T.nodes) } := by simp [removeT, onParent, hpar, hu]
      rw [e]
      have HP := Lib.hid hpar
      have HU := Lib.hid hu
      have hs : asorted (adel p T.nodes) := adel_sorted hr
      have Hs := Lib.hid hs
      clear hpar e hu hs
      go_enter Tryz.func100, Tryz.ntmps100
      go_wp2_with (go_at_call 95; refine (parent_any p _ (by omega) HG2.out).mono ?_; rw [HP.out, parentV]; rintro e w3 ⟨rfl, hb3⟩; have T3 := Lib.hid (HT2.out.pu hb3); have G3 := Lib.hid (HG2.out.pu (hb3.tr (pu_drew _))); have e1 := T3.out.cell1; have l3 := T3.out.look_some up (by omega) HU.out; have l4 := (T3.out.pu (pu_drew _)).look_some up (by omega) HU.out; have HB3 := Lib.hid hb3; clear hb3)
      go_region_with (first
        | (go_at_call 132; refine (nameOf_any p _ (by omega) G3.out).mono ?_; rintro e w4 ⟨rfl, hb4⟩; have T4 := Lib.hid ((T3.out.pu (pu_drew _)).pu hb4); have f1 := T4.out.cell1; have l5 := T4.out.look_some up (by omega) HU.out; have HB4 := Lib.hid hb4; clear hb4)
        | (go_at_call 131; refine (rem_any _ m (nameOf p) _ (T4.out.node _ (aget_mem HU.out)) (Hok.out _ (mem_adel.1 (aget_mem HU.out)).1)).mono ?_; rintro e w5 ⟨⟨r, rfl⟩, hn5, hf5⟩))
      all_goals
        go_wp2
        go_end0
        exact ⟨rfl, TreeStep.kid HT2.out Hs.out HF2.out HS2.out HU.out ((HB3.out.tr (pu_drew _)).tr HB4.out) hn5 hf5⟩

end Go.Proofs.YtmigbgfgnhkmnaaGreatDoor
