/- THE LAW PartKnown (A CLOSED STATEMENT) RETURNS true: the card of that statement. Conditions: those of the given row alone (the library's listed tables as the program lays them). -/
import Derived.Test.YtmigbgfgnhkmnaaGreatDoorKn1
import Derived.Test.YtmigbgfgnhkmnaaGreatDoorCards
import Derived.Test.YtmigbgfgnhkmnaaGreatDoorTie
import Derived.ProofKit
import Derived.OpenShut
import Derived.Carry
import Derived.MakeChecks
import Derived.Deep.Slices
import Derived.Deep.Fields
import Derived.Deep.DeepHandedRow
import Derived.Lib.LaidTab
import Derived.Lay
import Derived.LaidMore
/- From a row's premises to the words of the walks: the library's variables; a slice of Acts. -/
namespace Go.Proofs.YtmigbgfgnhkmnaaGreatDoor
open Go.RowKit Go.Av Go.ChangeShapes Go.WideShapes Go.ChangeAt Go.Deep

theorem ownZ : ownKnob Tryz.prog.godebug = none := by kernel_rfl

section
variable {H : Type} {enc : TypeId × Value → H} {P : Program}
/-- The row's last step where old memory is as it was: whatever was made is new. -/
theorem post_below {f : Func} {s : ChangeSpec} {apart fresh handsOn again : Bool} {W W' : World} {args : Array Value} {v : Value} {ds gs : List (DataW H)} {before pa pv : List MemPlace}
    (hW : DataW.Whole enc P f.params.toList s.vars apart W args.toList ds gs before)
    (hres : ∀ (b : Nat) (sp : Nat → Bool) (hd : Bool), DataW.TrodAll enc P W' b sp hd f.resultTypes.toList (v.resultList f.resultTypes.size) (s.fn H (ds ++ gs)).results [])
    (hargs : ∀ sp : Nat → Bool, (∀ p ∈ before, sp p.block = true) → DataW.TrodAll enc P W' 0 sp true f.params.toList args.toList (s.fn H (ds ++ gs)).args pa)
    (hvars : ∀ sp : Nat → Bool, (∀ p ∈ before, sp p.block = true) → DataW.TrodVars enc P W' sp s.vars (s.fn H (ds ++ gs)).vars pv)
    (hps : before = pa ++ pv) (hb : Below W.heap.size W W')
    (hok : ∀ (j : Nat) (t : TypeId) (r : Value), f.resultTypes[j]? = some t → (v.resultList f.resultTypes.size)[j]? = some r → Value.okWide P W' .any 0 t r) :
    s.post enc P f apart fresh handsOn again W args v W' := by
  have hlt : ∀ p ∈ before, p.block < W.heap.size := fun p hp => hW.lt p hp
  have hold : ∀ p ∈ before, (fun b => decide (b < W.heap.size)) p.block = true := fun p hp => by simpa using hlt p hp
  refine ⟨ds, gs, before, [], pa, pv, hW, hres _ _ _, hargs _ hold, hvars _ hold, World.keptBut_mono (fun p hp => ⟨hp, ?_⟩) (hb.frame (· ∈ before)), fun _ => ?_⟩
  · rw [hps, List.mem_append] at hp
    exact Or.inr hp
  · obtain ⟨_, _, _, _, _, hz, hn⟩ := hW
    refine ⟨hok, _, _, ([] ++ pa) ++ pv, ⟨[] ++ pa, pv, trodAll_append (hargs _ (fun _ _ => rfl)) (hres _ _ _), hvars _ (fun _ _ => rfl), rfl, ?_, ?_⟩, ?_⟩
    · intro b off hp
      have hin : MemPlace.cell b off ∈ before := by rw [hps]; simpa using hp
      rw [hb.frozen (hlt _ hin)]
      exact hz b off hin
    · intro ha
      have := hn ha
      rw [hps] at this
      simpa using this
    · intro p hp _
      rw [hps]
      simpa using hp

/-- A slice of structs of one-cell fields, opened: each field of each element. -/
theorem open_fields {w : World} {base : Nat} {spare : Nat → Bool} {held : Bool} {t e : TypeId} {fs : Array Field} {fuel : Nat} {cs : List Value} {x : DataW H × List MemPlace} (ht : P.underlying t = some (.slice e)) (he : P.underlying e = some (.struct fs))
    (hone : oneCellFields P fs = true) (hC : P.cellsOf e = fs.size) (h : DataW.trod enc P w base spare held fuel t cs = some x) :
    cs = [.slice none 0 0] ∨ ∃ (a : Addr) (len cap : Nat), cs = [.slice (some a) len cap] ∧ len ≤ cap ∧ cap ≤ maxLen ∧
      ∀ i, i < (if spare a.block then cap else len) → ∃ (n : Nat), ∀ (j : Nat) (f : Field), fs[j]? = some f → ∃ (v : Value) (y : DataW H × List MemPlace), w.cell? (a.add (i * fs.size + j)) = some v ∧ DataW.trod enc P w base spare held n f.type [v] = some y := by
  rcases open_slice ht h with ⟨h0, _⟩ | ⟨a, len, cap, m, n, D, Pl, hcs, hb, hl, hm, hmm, hx, hi⟩
  · exact .inl h0
  · refine .inr ⟨a, len, cap, hcs, hl, hm, fun i him => ?_⟩
    obtain ⟨cs', hc, ht'⟩ := hi i (by rw [hmm]; exact him)
    rw [hC] at hc
    obtain ⟨ys, n', hn', hy, hlen, hyl, hf⟩ := DataW.trod_struct he ht'
    obtain ⟨_, hcl, hat⟩ := World.cells?_some hc
    refine ⟨n', fun j f hj => ?_⟩
    obtain ⟨ho, hk⟩ := hone_of hone j f hj
    have hjl : j < fs.size := (Array.getElem?_eq_some_iff.1 hj).1
    have hcell := hat j hjl
    have hv : cs'[j]? = some (cs'[j]'(by omega)) := List.getElem?_eq_getElem (by omega)
    have h1 := hf j f hj
    rw [ho, hk] at h1
    have hone' : (cs'.drop j).take 1 = [cs'[j]'(by omega)] := by
      rw [List.drop_eq_getElem_cons (by omega)]
      rfl
    rw [hone'] at h1
    have hys : ys[j]? = some (ys[j]'(by omega)) := List.getElem?_eq_getElem (by omega)
    refine ⟨_, _, ?_, h1.trans hys⟩
    rw [← Go.Deep.add_add, hcell, hv]
end

/-- A cell that is there lies in a block of cells, at no spot. -/
theorem cell_block {w : World} {a : Addr} {v : Value} (h : w.cell? a = some v) : ∃ b off c t fr, a = ⟨b, off, none⟩ ∧ w.heap[b]? = some (.cells c t fr) ∧ c[off]? = some v := by
  obtain ⟨b, off, sp⟩ := a
  unfold World.cell? at h
  simp only at h
  split at h
  · rename_i c t fr hb
    split at h
    · cases h
    · rename_i hs
      cases sp with
      | none => exact ⟨b, off, c, t, fr, rfl, hb, h⟩
      | some x => simp at hs
  · cases h
/-- A slice of elements whose cells are known. -/
theorem sl_of_cells {w : World} {a : Addr} {len cap sz : Nat} {cs : List Value} (hl : 0 < len) (hc : len ≤ cap) (hsz : 0 < sz) (hcs : cs.length = len * sz)
    (hfull : ∀ j, j < cap * sz → ∃ v, w.cell? (a.add j) = some v) (hcell : ∀ j, j < len * sz → w.cell? (a.add j) = cs[j]?) : ∃ t b off, a = ⟨b, off, none⟩ ∧ Sl t sz w (.slice (some a) len cap) len cs := by
  have hpos : 0 < cap * sz := Nat.mul_pos (by omega) hsz
  obtain ⟨v0, h0⟩ := hfull 0 hpos
  have e0 : a.add 0 = a := rfl
  rw [e0] at h0
  obtain ⟨b, off, c, t, fr, rfl, hb, _⟩ := cell_block h0
  have hadd : ∀ j, (⟨b, off, none⟩ : Addr).add j = ⟨b, off + j, none⟩ := fun j => by
    unfold Addr.add; split
    · rename_i h; subst h; rfl
    · rfl
  refine ⟨t, b, off, rfl, hcs, .inr ⟨b, off, cap, c, fr, rfl, hc, hb, ?_, fun j hj => ?_⟩⟩
  · obtain ⟨v, hv⟩ := hfull (cap * sz - 1) (by omega)
    rw [hadd, cell_of_blk hb] at hv
    have : off + (cap * sz - 1) < c.size := by
      by_cases q : off + (cap * sz - 1) < c.size
      · exact q
      · rw [Array.getElem?_eq_none (by omega)] at hv; cases hv
    omega
  · have := hcell j (by omega)
    rw [hadd, cell_of_blk hb] at this
    exact this

section
variable {H : Type} {enc : TypeId × Value → H}
theorem ops_of_trod {w : World} {base : Nat} {held : Bool} {fuel : Nat} {v : Value} {y : DataW H × List MemPlace} (h : DataW.trod enc Tryz.prog w base (fun _ => true) held fuel 28 [v] = some y) : ∃ l, SlX w v l := by
  rcases open_fields Tryz.underlying28 Tryz.underlying50 (by kernel_rfl) (by kernel_rfl) h with h0 | ⟨a, len, cap, h0, hl, hm, hi⟩
  · exact ⟨[], .inl ⟨rfl, none, 0, by simpa using h0⟩⟩
  · obtain rfl : v = .slice (some a) len cap := by simpa using h0
    by_cases hz : len = 0
    · subst hz; exact ⟨[], .inl ⟨rfl, _, _, rfl⟩⟩
    · have key : ∀ i, i < cap → ∃ o : OpD, ∀ r, r < 5 → w.cell? (a.add (i * 5 + r)) = o.cells[r]? := fun i hic => by
        obtain ⟨n, hf⟩ := hi i hic
        obtain ⟨v0, y0, c0, t0⟩ := hf 0 _ rfl
        obtain ⟨v1, y1, c1, t1⟩ := hf 1 _ rfl
        obtain ⟨v2, y2, c2, t2⟩ := hf 2 _ rfl
        obtain ⟨v3, y3, c3, t3⟩ := hf 3 _ rfl
        obtain ⟨v4, y4, c4, t4⟩ := hf 4 _ rfl
        obtain ⟨n0, e0, _, _⟩ := DataW.trod_int Tryz.underlying3 t0
        obtain ⟨s1, e1, _, _⟩ := DataW.trod_string Tryz.underlying9 t1
        obtain ⟨s2, e2, _, _⟩ := DataW.trod_string Tryz.underlying9 t2
        obtain ⟨n3, e3, _, _⟩ := DataW.trod_int Tryz.underlying3 t3
        obtain ⟨n4, e4, _, _⟩ := DataW.trod_int Tryz.underlying3 t4
        simp only [List.cons.injEq, and_true] at e0 e1 e2 e3 e4
        subst e0 e1 e2 e3 e4
        refine ⟨⟨n0, s1.data.toList, s2.data.toList, n3, n4⟩, fun r hr => ?_⟩
        simp only [OpD.cells, mkB_of]
        obtain rfl | rfl | rfl | rfl | rfl : r = 0 ∨ r = 1 ∨ r = 2 ∨ r = 3 ∨ r = 4 := by omega
        · exact c0
        · exact c1
        · exact c2
        · exact c3
        · exact c4
      obtain ⟨o, ho⟩ := choose_lt (p := fun i (o : OpD) => ∀ r, r < 5 → w.cell? (a.add (i * 5 + r)) = o.cells[r]?) key
      have hlen : ((List.range len).map o).length = len := by simp
      have hat : ∀ j, j < len * 5 → w.cell? (a.add j) = (ocells ((List.range len).map o))[j]? := fun j hj => by
        have e : j = (j / 5) * 5 + j % 5 := by omega
        rw [e, ho (j / 5) (by omega) (j % 5) (by omega), ocells_get _ (j / 5) (by rw [hlen]; omega) (j % 5) (by omega)]
        simp
      obtain ⟨t, b, off, _, hs⟩ := sl_of_cells (by omega) hl (by omega) (by rw [ocells_len, hlen]) (fun j hj => by
        have e : j = (j / 5) * 5 + j % 5 := by omega
        have h1 := ho (j / 5) (by omega) (j % 5) (by omega)
        rw [← e] at h1
        rw [h1]
        exact ⟨_, List.getElem?_eq_getElem (by simp [OpD.cells]; omega)⟩) hat
      exact ⟨_, .inr ⟨t, by unfold SlO; rw [hlen]; exact hs⟩⟩

theorem acts_of_trod {w : World} {base : Nat} {held : Bool} {fuel : Nat} {v : Value} {y : DataW H × List MemPlace} (h : DataW.trod enc Tryz.prog w base (fun _ => true) held fuel 22 [v] = some y) : ∃ l, SlA w v l ∧ ∀ x ∈ l, i64 x.id ∧ i64 x.sess := by
  rcases open_fields Tryz.underlying22 Tryz.underlying30 (by kernel_rfl) (by kernel_rfl) h with h0 | ⟨a, len, cap, h0, hl, hm, hi⟩
  · exact ⟨[], .inl ⟨rfl, none, 0, by simpa using h0⟩, by simp⟩
  · obtain rfl : v = .slice (some a) len cap := by simpa using h0
    by_cases hz : len = 0
    · subst hz; exact ⟨[], .inl ⟨rfl, _, _, rfl⟩, by simp⟩
    · have key : ∀ i, i < cap → ∃ z : ActD × Value, (∀ r, r < 5 → w.cell? (a.add (i * 5 + r)) = (z.1.cells z.2)[r]?) ∧ SlX w z.2 z.1.ops ∧ i64 z.1.id ∧ i64 z.1.sess := fun i hic => by
        obtain ⟨n, hf⟩ := hi i hic
        obtain ⟨v0, y0, c0, t0⟩ := hf 0 _ rfl
        obtain ⟨v1, y1, c1, t1⟩ := hf 1 _ rfl
        obtain ⟨v2, y2, c2, t2⟩ := hf 2 _ rfl
        obtain ⟨v3, y3, c3, t3⟩ := hf 3 _ rfl
        obtain ⟨v4, y4, c4, t4⟩ := hf 4 _ rfl
        obtain ⟨n0, e0, _, _⟩ := DataW.trod_int Tryz.underlying3 t0
        obtain ⟨n1, e1, _, w1⟩ := DataW.trod_int Tryz.underlying2 t1
        obtain ⟨n2, e2, _, w2⟩ := DataW.trod_int Tryz.underlying2 t2
        obtain ⟨ops, hops⟩ := ops_of_trod t3
        obtain ⟨b4, e4, _⟩ := DataW.trod_bool Tryz.underlying4 t4
        simp only [List.cons.injEq, and_true] at e0 e1 e2 e4
        subst e0 e1 e2 e4
        refine ⟨(⟨n0, n1, n2, ops, b4⟩, v3), fun r hr => ?_, hops, w1, w2⟩
        simp only [ActD.cells]
        obtain rfl | rfl | rfl | rfl | rfl : r = 0 ∨ r = 1 ∨ r = 2 ∨ r = 3 ∨ r = 4 := by omega
        · exact c0
        · exact c1
        · exact c2
        · exact c3
        · exact c4
      obtain ⟨z, hz'⟩ := choose_lt (p := fun i (z : ActD × Value) => (∀ r, r < 5 → w.cell? (a.add (i * 5 + r)) = (z.1.cells z.2)[r]?) ∧ SlX w z.2 z.1.ops ∧ i64 z.1.id ∧ i64 z.1.sess) key
      have hlen : ((List.range len).map z).length = len := by simp
      have hat : ∀ j, j < len * 5 → w.cell? (a.add j) = (acells ((List.range len).map z))[j]? := fun j hj => by
        have e : j = (j / 5) * 5 + j % 5 := by omega
        rw [e, (hz' (j / 5) (by omega)).1 (j % 5) (by omega), acells_get _ (j / 5) (by rw [hlen]; omega) (j % 5) (by omega)]
        simp
      obtain ⟨t, b, off, _, hs⟩ := sl_of_cells (by omega) hl (by omega) (by rw [acells_len, hlen]) (fun j hj => by
        have e : j = (j / 5) * 5 + j % 5 := by omega
        have h1 := (hz' (j / 5) (by omega)).1 (j % 5) (by omega)
        rw [← e] at h1
        rw [h1]
        exact ⟨_, List.getElem?_eq_getElem (by simp [ActD.cells]; omega)⟩) hat
      have hmem : ∀ x ∈ (List.range len).map z, SlX w x.2 x.1.ops ∧ i64 x.1.id ∧ i64 x.1.sess := fun x hx => by
        obtain ⟨i, hi, rfl⟩ := List.mem_map.1 hx
        exact (hz' i (by have := List.mem_range.1 hi; omega)).2
      refine ⟨_, .inr ⟨(List.range len).map z, t, rfl, by rw [hlen]; exact hs, fun x hx => (hmem x hx).1⟩, fun x hx => ?_⟩
      obtain ⟨q, hq, rfl⟩ := List.mem_map.1 hx
      exact (hmem q hq).2
end

theorem gPow : Tryz.prog.globalNamed "internal/strconv.uint64pow10" = some 3 := by kernel_rfl

/-- WHAT THE ROW's LIST GIVES: the table of powers of ten. -/
theorem pow_of_laid {W : World} (h : laidMetH Tryz.prog Rows.partZxidsRow.laid W) : Lib.TabIs Tryz.prog W "internal/strconv.uint64pow10" .u64 Lib.pow10Tab := by
  rw [MakeChecks.laidMetH_plain _ _ _ (by kernel_rfl)] at h
  obtain ⟨ps, ⟨_, _, _, _, _, _, _, _, _, _, ⟨_, _, _, _, _, _, _, _, _, _, ⟨g', t', cs, fuel, p, q, hg', ht', hvar, hd, _⟩, _⟩, _⟩, _⟩ := h
  obtain rfl := Option.some.inj (gPow.symm.trans hg')
  have hty : (Tryz.prog.globals[3]?).map (·.type) = some 283 := by kernel_rfl
  obtain rfl := Option.some.inj (hty.symm.trans ht')
  unfold Lib.TabIs
  rw [hvar, ← Lib.cells_of_tab (zs := Lib.pow10Tab) Tryz.underlying283 Tryz.underlying230 (by kernel_rfl) (by kernel_rfl) hd]

theorem cell_lt {w : World} {a : Addr} {v : Value} (h : w.cell? a = some v) : a.block < w.heap.size := by
  obtain ⟨b, off, c, t, fr, rfl, hb, _⟩ := cell_block h
  exact (Array.getElem?_eq_some_iff.1 hb).1

/-- THE LIBRARY's VARIABLES, FROM THE ROW's PREMISES. -/
theorem gl_of {W : World} (h : laidMetH Tryz.prog Rows.partZxidsRow.laid W) (hS : W.ShapedOpen Tryz.prog) : Gl W := by
  obtain ⟨m, hm⟩ := Tryz.laysM146.s1_3 W hS
  have hm' : W.cell? ⟨0, 0, none⟩ = some (.int .i64 m) := hm
  have ht := pow_of_laid h
  exact ⟨⟨m, hm'⟩, cell_lt hm', cell_lt (ht.cell gPow 0 (by decide)), ht⟩

/-- THE WITNESS's WORLD: each listed variable as the list says. -/
theorem laid_met (os : Os) (args : Array Value) : laidMetH Tryz.prog Rows.partZxidsRow.laid ((World.laidAll Tryz.prog os Rows.partZxidsRow.laid).forCall (fun _ _ => 0) ⟨#[], args, []⟩).memory := by
  rw [MakeChecks.laidMetH_plain _ _ _ (by kernel_rfl)]
  exact laidMet_laidAll _ (by kernel_rfl) (by kernel_rfl)

theorem no_standin {ts : List TypeId} (h : (ts.all fun u => !Tryz.prog.wantsStandIn u) = true) {t : TypeId} (ht : t ∈ ts) : Tryz.prog.wantsStandIn t = false := by
  simpa using List.all_eq_true.1 h t ht

end Go.Proofs.YtmigbgfgnhkmnaaGreatDoor

/- THE LAW PartKnown HOLDS (a closed statement): it returns true. Conditions: none beyond the row's own (the listed tables as the program lays them). -/
namespace Go.Proofs.YtmigbgfgnhkmnaaGreatDoor
open Go.RowKit Go.Av Go.ChangeShapes Go.WideShapes Go.ChangeAt Go.Deep

set_option maxRecDepth 100000 in
/-- WHAT THE WALK GIVES, FOR EVERY ARGUMENT. -/
theorem known_contract (H : Type) (enc : TypeId × Value → H) (W : World) (base : Nat) (args : Array Value) (ds gs : List (DataW H)) (before : List MemPlace)
    (hval : ∀ (j : Nat) t v, Tryz.f5.params[j]? = some t → args[j]? = some v → Value.okWide Tryz.prog W .any base t v)
    (hW : DataW.Whole enc Tryz.prog Tryz.f5.params.toList Rows.partKnownSpec.vars false W args.toList ds gs before) (hL : laidMetH Tryz.prog Rows.partKnownRow.laid W) (hS : W.ShapedOpen Tryz.prog) :
    Calls Tryz.prog 5 args W fun e W' => ∃ v, e = .returned v ∧ Rows.partKnownSpec.post enc Tryz.prog Tryz.f5 false true false false W args v W' := by
  have hW' := hW
  obtain ⟨p, q, hA0, hV, rfl, hfz, hnd⟩ := hW
  have hA : DataW.TrodAll enc Tryz.prog W 0 (fun _ => true) true Tryz.f5.params.toList args.toList ds p := hA0
  rw [Tryz.params5] at hA hval
  obtain ⟨hargs, rfl, rfl⟩ := trodAll_nil hA
  obtain rfl : args = #[] := by cases args; simp_all
  obtain ⟨rfl, rfl⟩ := trodVars_none hV
  refine (knownP_any W (gl_of hL hS)).mono fun e W' ⟨he, hp⟩ => ?_
  subst he
  refine ⟨_, rfl, post_below (pa := []) (pv := []) hW' (fun _ _ _ => trodAll_mk1 (shut_bool Tryz.underlying4 _)) (fun _ _ => trodAll_mk0) (fun _ _ => rfl) rfl hp (ok_one (by kernel_rfl) rfl (okWide_bool_mk Tryz.underlying4 _))⟩

theorem known_reads (os : Os) {H : Type} (enc : TypeId × Value → H) : ∃ places, DataW.whole enc Tryz.prog ((World.laidAll Tryz.prog os Rows.partKnownRow.laid).forCall (fun _ _ => 0) ⟨#[], #[], []⟩).memory Tryz.f5.params.toList Rows.partKnownSpec.vars false (#[] : Array Value).toList 8 = some ([], [], places) :=
  ⟨[], by kernel_rfl⟩

set_option maxRecDepth 100000 in
theorem known_lifted (os : Os) (started : os.Started) (H : Type) (enc : TypeId × Value → H) (F : Stop.Interp) :
    ReturnsInHanded {} Tryz.checked os 5 .any ((OpenSpec.ofChange Rows.partKnownSpec).preRow enc Tryz.prog Tryz.f5 Rows.partKnownRow.domain false Rows.partKnownRow.laid) (((OpenSpec.ofChange Rows.partKnownSpec).at F).post enc Tryz.prog Tryz.f5 false true false false) := by
  obtain ⟨places, hx⟩ := known_reads os enc
  refine returnsInHanded_of_row (C := Tryz.checked) (s := OpenSpec.ofChange Rows.partKnownSpec) ownZ started (by kernel_rfl) Tryz.func5
    (witness_row_at (enc := enc) (C := Tryz.checked) false (World.laidAll Tryz.prog os Rows.partKnownRow.laid) #[] (World.laidAll_os _ _ _) (by kernel_rfl) (by kernel_rfl) (by kernel_rfl)
      (OpenSpec.preRow_of_cond 8 hx (by kernel_rfl) (fun k hk => by cases hk) (by kernel_rfl) (laid_met os _))) ?_
  intro W base args ds gs before hval hW _ _ _ hL hS _
  exact known_contract H enc W base args ds gs before hval hW hL hS

theorem known_said : Rows.PartKnownSaid :=
  OpenClaim.holds_of_cond 5 Tryz.f5 rfl rfl rfl rfl rfl rfl rfl ⟨rfl, rfl, rfl, rfl, rfl⟩ rfl rfl rfl rfl rfl (by kernel_rfl) Tryz.func5 (by kernel_rfl)
    (of_decide_eq_true (by kernel_rfl)) (by unfold Func.isWrapper; first | (rw [if_pos (by decide +kernel)]; kernel_rfl) | (rw [if_neg (by decide +kernel)]; exact ⟨rfl, rfl⟩))
    (fun os started H enc _ F => by rw [OpenClaim.pre_eq_preRow]; exact known_lifted os started H enc F)

theorem known_plain (f : FuncId) (fn : Func) (hf : Tryz.pinned.checked.prog.funcNamed "aviary/aviarylaw18.PartKnown" = some f) (hfn : Tryz.pinned.checked.prog.funcs[f]? = some fn) :
    false = Tryz.pinned.checked.prog.looks [] ∧ ∀ (j : Nat) t, fn.params[j]? = some t → Tryz.pinned.checked.prog.wantsStandIn t = false := by
  obtain rfl : f = 5 := Option.some.inj ((show Tryz.prog.funcNamed "aviary/aviarylaw18.PartKnown" = some 5 by kernel_rfl).symm.trans hf) |>.symm
  obtain rfl : fn = Tryz.f5 := (Option.some.inj (Tryz.func5.symm.trans hfn)).symm
  refine ⟨by kernel_rfl, fun j t ht => ?_⟩
  rw [Tryz.params5] at ht
  simp at ht

/-- THE CARD. -/
theorem known_card : Rows.PartKnownCardSaid :=
  Claim7.holds_tied_plain_at .later [] _ _ _ _ known_said (fun _ h => by cases h) (by kernel_rfl) (fun _ h => by cases h) partKnown_row_tie rfl ⟨rfl, rfl⟩ (by kernel_rfl) rfl known_plain (by kernel_rfl)

end Go.Proofs.YtmigbgfgnhkmnaaGreatDoor
