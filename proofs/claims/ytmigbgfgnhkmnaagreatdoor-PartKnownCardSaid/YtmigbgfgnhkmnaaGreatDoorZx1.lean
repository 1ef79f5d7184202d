/- Part 1 of a proof in parts: what the code of these packages does, and plain facts about it (Base). No condition of its own. -/
import Derived.WalkKit
import Derived.WalkSpells
import Derived.WalkLawsBesides
import Derived.Lib.Hide
import Derived.Deep.Light
import Derived.Lib.Strings
import Derived.Deep.QuietTactic
import Derived.BigQuiet
import Derived.Deep.MidRow
/- Words of mine that speak of no program: strings as lists of bytes; what a call leaves of old memory; slices that read as lists. -/
namespace Go.Av
open Go.RowKit

abbrev Str := List UInt8

/-- A string's value out of its bytes. -/
def mkB (l : Str) : ByteArray := ⟨l.toArray⟩
@[simp] theorem mkB_data (l : Str) : (mkB l).data = l.toArray := rfl
@[simp] theorem mkB_size (l : Str) : (mkB l).size = l.length := by simp [mkB, ByteArray.size]
theorem mkB_of (s : ByteArray) : mkB s.data.toList = s := by simp [mkB]
theorem mkB_inj {a b : Str} : mkB a = mkB b ↔ a = b := by
  constructor
  · intro h; have := congrArg (fun x : ByteArray => x.data.toList) h; simpa using this
  · rintro rfl; rfl
@[simp] theorem mkB_eq_iff (a b : Str) : (mkB a = mkB b) = (a = b) := propext mkB_inj

@[simp] theorem mkB_toList (l : Str) : (mkB l).toList = l := by
  rw [Lib.toList_data]; simp
@[simp] theorem mkB_getElem (l : Str) (k : Nat) (h : k < (mkB l).size) : (mkB l)[k]'h = l[k]'(by simpa using h) := by
  rfl

@[simp] theorem mkB_extract (l : Str) (a b : Nat) : (mkB l).extract a b = mkB ((l.drop a).take (b - a)) := by
  rw [Lib.extract_eq]; simp [mkB]
@[simp] theorem mkB_append (a b : Str) : mkB a ++ mkB b = mkB (a ++ b) := by
  have : (mkB a ++ mkB b).data.toList = a ++ b := by simp
  rw [← mkB_of (mkB a ++ mkB b), this]

theorem ret_bool {a b : Bool} (h : a = b) : Ending.returned (.bool a) = .returned (.bool b) := by rw [h]
theorem ret_int {k : IntKind} {a b : Int} (h : a = b) : Ending.returned (.int k a) = .returned (.int k b) := by rw [h]
theorem ret_str {a b : Str} (h : a = b) : Ending.returned (.string (mkB a)) = .returned (.string (mkB b)) := by rw [h]

/-- Old blocks outside M are as they were; the streams too. -/
structure Fr (M : Nat → Prop) (w w' : World) : Prop where
  os : w'.os = w.os
  tape : w'.tape = w.tape
  output : w'.output = w.output
  size : w.heap.size ≤ w'.heap.size
  keep : ∀ b, b < w.heap.size → ¬ M b → w'.heap[b]? = w.heap[b]?

/-- Nothing that was there has changed. -/
abbrev Pu (w w' : World) : Prop := Below w.heap.size w w'

theorem Fr.of_below {M : Nat → Prop} {w w' : World} (h : Pu w w') : Fr M w w' := ⟨h.os, h.tape, h.output, h.size, fun b hb _ => h.block b hb⟩
theorem Fr.refl (M : Nat → Prop) (w : World) : Fr M w w := ⟨rfl, rfl, rfl, Nat.le_refl _, fun _ _ _ => rfl⟩
theorem Fr.mono {M M' : Nat → Prop} {w w' : World} (h : Fr M w w') (hm : ∀ b, b < w.heap.size → M b → M' b) : Fr M' w w' :=
  ⟨h.os, h.tape, h.output, h.size, fun b hb hn => h.keep b hb fun hm' => hn (hm b hb hm')⟩
/-- Two steps: what the second touches beside M is new. -/
theorem Fr.trans {M M' : Nat → Prop} {a b c : World} (h : Fr M a b) (k : Fr M' b c) (hm : ∀ x, x < a.heap.size → M' x → M x) : Fr M a c :=
  ⟨k.os.trans h.os, k.tape.trans h.tape, k.output.trans h.output, Nat.le_trans h.size k.size,
    fun x hx hn => (k.keep x (Nat.lt_of_lt_of_le hx h.size) fun hm' => hn (hm x hx hm')).trans (h.keep x hx hn)⟩
theorem Fr.to_below {w w' : World} (h : Fr (fun _ => False) w w') : Pu w w' := ⟨h.os, h.tape, h.output, h.size, fun b hb => h.keep b hb (fun x => x)⟩
theorem Fr.alloc {M : Nat → Prop} {a w : World} (h : Fr M a w) (o : Obj) : Fr M a (w.alloc o) :=
  h.trans (M' := fun _ => False) ⟨rfl, rfl, rfl, by simp, fun b hb _ => Below.heap_alloc _ _ _ hb⟩ (fun _ _ x => x.elim)
theorem Fr.drew {M : Nat → Prop} {a w : World} (h : Fr M a w) : Fr M a w.drew := ⟨h.os, h.tape, h.output, h.size, h.keep⟩
theorem Fr.drewN {M : Nat → Prop} {a w : World} (h : Fr M a w) (n : Nat) : Fr M a (w.drewN n) := ⟨h.os, h.tape, h.output, h.size, h.keep⟩
theorem Fr.setCell {M : Nat → Prop} {a w : World} (h : Fr M a w) (p : Addr) (v : Value) (hp : a.heap.size ≤ p.block ∨ M p.block) : Fr M a (w.setCell p v) :=
  ⟨h.os, h.tape, h.output, by simpa using h.size, fun b hb hn => by
    have hne : b ≠ p.block := by
      rintro rfl
      rcases hp with hp | hp
      · omega
      · exact hn hp
    rw [Below.heap_setCell _ _ _ _ hne]; exact h.keep b hb hn⟩

theorem cell_of_blk {w : World} {b o : Nat} {c : Array Value} {t : TypeId} {fr : Nat × Nat} (h : w.heap[b]? = some (.cells c t fr)) : w.cell? ⟨b, o, none⟩ = c[o]? := by
  simp [World.cell?, h]
theorem frozen_of_blk {w : World} {b o : Nat} {c : Array Value} {t : TypeId} (h : w.heap[b]? = some (.cells c t (0, 0))) : w.frozen? ⟨b, o, none⟩ = false := by
  simp [World.frozen?, h]
theorem setCell_blk {w : World} {b : Nat} {c : Array Value} {t : TypeId} {fr : Nat × Nat} (h : w.heap[b]? = some (.cells c t fr)) (o : Nat) (v : Value) :
    (w.setCell ⟨b, o, none⟩ v).heap[b]? = some (.cells (c.setIfInBounds o v) t fr) := by
  simp [World.setCell, Array.getElem?_modify, h]
theorem other_set {w : World} {b i : Nat} (hne : i ≠ b) (o : Nat) (v : Value) : (w.setCell ⟨b, o, none⟩ v).heap[i]? = w.heap[i]? := Below.heap_setCell _ _ _ _ hne
theorem fr_set {a w : World} {b : Nat} (h : Fr (fun x => x = b) a w) (o : Nat) (v : Value) : Fr (fun x => x = b) a (w.setCell ⟨b, o, none⟩ v) := h.setCell _ _ (.inr rfl)
theorem lt_of_blk {w : World} {b : Nat} {o : Obj} (h : w.heap[b]? = some o) : b < w.heap.size := (Array.getElem?_eq_some_iff.1 h).1

/-- Behind a call that leaves all old blocks as they were: each old cell reads, and is marked, as before. -/
theorem bcell {W w1 : World} (hb : Pu W w1) : (∀ b o, b < W.heap.size → w1.cell? ⟨b, o, none⟩ = W.cell? ⟨b, o, none⟩) ∧ (∀ b o, b < W.heap.size → w1.frozen? ⟨b, o, none⟩ = W.frozen? ⟨b, o, none⟩) :=
  ⟨fun b o h => hb.cell (p := ⟨b, o, none⟩) h, fun b o h => hb.frozen (p := ⟨b, o, none⟩) h⟩

/-- THE SLICE VALUE v, OF n ELEMENTS OF TYPE t (sz CELLS EACH), READS AS THE CELLS cs. -/
def Sl (t : TypeId) (sz : Nat) (w : World) (v : Value) (n : Nat) (cs : List Value) : Prop :=
  cs.length = n * sz ∧ ((v = .slice none 0 0 ∧ n = 0) ∨
    ∃ b off cap c fr, v = .slice (some ⟨b, off, none⟩) n cap ∧ n ≤ cap ∧ w.heap[b]? = some (.cells c t fr) ∧ off + cap * sz ≤ c.size ∧ ∀ j, j < cs.length → c[off + j]? = cs[j]?)

/-- Strings. -/
def SlS (t : TypeId) (w : World) (v : Value) (l : List Str) : Prop := Sl t 1 w v l.length (l.map fun s => Value.string (mkB s))

theorem Sl.keep {t : TypeId} {sz : Nat} {w w' : World} {v : Value} {n : Nat} {cs : List Value} (h : Sl t sz w v n cs) (hk : ∀ (b : Nat) (c : Array Value) (fr : Nat × Nat), w.heap[b]? = some (Obj.cells c t fr) → w'.heap[b]? = w.heap[b]?) : Sl t sz w' v n cs := by
  obtain ⟨h1, h2⟩ := h
  refine ⟨h1, ?_⟩
  rcases h2 with h2 | ⟨b, off, cap, c, fr, a1, a2, a3, a4, a5⟩
  · exact .inl h2
  · exact .inr ⟨b, off, cap, c, fr, a1, a2, (hk b c fr a3).trans a3, a4, a5⟩

theorem Sl.pu {t : TypeId} {sz : Nat} {w w' : World} {v : Value} {n : Nat} {cs : List Value} (h : Sl t sz w v n cs) (hp : Pu w w') : Sl t sz w' v n cs :=
  h.keep fun b _ _ hb => hp.block b (lt_of_blk hb)

/-- The value is a slice; its length, its address. -/
theorem Sl.form {t : TypeId} {sz : Nat} {w : World} {v : Value} {n : Nat} {cs : List Value} (h : Sl t sz w v n cs) :
    ∃ a cap, v = .slice a n cap ∧ n ≤ cap ∧ (a = none → n = 0 ∧ cap = 0) ∧ (∀ p, a = some p → p.spot = none ∧ p.block < w.heap.size ∧ ∀ j, j < n * sz → w.cell? ⟨p.block, p.off + j, none⟩ = cs[j]?) := by
  obtain ⟨h1, h2⟩ := h
  rcases h2 with ⟨rfl, rfl⟩ | ⟨b, off, cap, c, fr, rfl, a2, a3, a4, a5⟩
  · exact ⟨none, 0, rfl, Nat.le_refl _, (fun _ => ⟨rfl, rfl⟩), (fun p hp => by cases hp)⟩
  · refine ⟨_, cap, rfl, a2, (fun h => by cases h), fun p hp => ?_⟩
    cases hp
    exact ⟨rfl, lt_of_blk a3, fun j hj => by rw [cell_of_blk a3]; exact a5 j (by omega)⟩

/-- One that is not empty. -/
theorem Sl.pos {t : TypeId} {sz : Nat} {w : World} {v : Value} {n : Nat} {cs : List Value} (h : Sl t sz w v n cs) (hn : 0 < n) :
    ∃ b off cap, v = .slice (some ⟨b, off, none⟩) n cap ∧ n ≤ cap ∧ b < w.heap.size ∧ ∀ j, j < n * sz → w.cell? ⟨b, off + j, none⟩ = cs[j]? := by
  obtain ⟨a, cap, rfl, a2, a3, a4⟩ := h.form
  cases a with
  | none => have := (a3 rfl).1; omega
  | some p =>
    obtain ⟨b1, b2, b3⟩ := a4 p rfl
    obtain ⟨pb, po, ps⟩ := p
    cases b1
    exact ⟨pb, po, cap, rfl, a2, b2, b3⟩

theorem Sl.nil (t : TypeId) (sz : Nat) (w : World) : Sl t sz w (.slice none 0 0) 0 [] := ⟨by simp, .inl ⟨rfl, rfl⟩⟩

/-- A block known whole, read from its head. -/
theorem Sl.of_blk {t : TypeId} {sz : Nat} {w : World} {b : Nat} {cs : List Value} {fr : Nat × Nat} {n : Nat} (hb : w.heap[b]? = some (.cells cs.toArray t fr)) (hn : cs.length = n * sz) : Sl t sz w (.slice (some ⟨b, 0, none⟩) n n) n cs :=
  ⟨hn, .inr ⟨b, 0, n, _, fr, rfl, Nat.le_refl _, hb, by simp [hn], fun j hj => by simp⟩⟩

/-- A part of a slice. -/
theorem Sl.cut {t : TypeId} {sz : Nat} {w : World} {b off n cap : Nat} {cs : List Value} (h : Sl t sz w (.slice (some ⟨b, off, none⟩) n cap) n cs) (i j : Nat) (hij : i ≤ j) (hj : j ≤ n) :
    Sl t sz w (.slice (some ⟨b, off + i * sz, none⟩) (j - i) (cap - i)) (j - i) ((cs.drop (i * sz)).take ((j - i) * sz)) := by
  obtain ⟨h1, h2⟩ := h
  rcases h2 with ⟨e, _⟩ | ⟨b', off', cap', c, fr, e, a2, a3, a4, a5⟩
  · cases e
  · cases e
    have e1 : (j - i) * sz + i * sz = j * sz := by rw [← Nat.add_mul]; congr 1; omega
    have e2 : j * sz ≤ n * sz := Nat.mul_le_mul_right _ hj
    have e3 : (cap - i) * sz + i * sz = cap * sz := by rw [← Nat.add_mul]; congr 1; omega
    refine ⟨by simp only [List.length_take, List.length_drop, h1]; omega, .inr ⟨b, _, _, c, fr, rfl, by omega, a3, by omega, fun k hk => ?_⟩⟩
    simp only [List.length_take, List.length_drop, h1] at hk
    rw [Nat.add_assoc, a5 (i * sz + k) (by omega)]
    rw [List.getElem?_take, if_pos (by omega), List.getElem?_drop]

/-- The call hands back a slice of strings that reads as l; nothing old has changed. -/
def RetS (t : TypeId) (w : World) (l : List Str) (e : Ending) (w' : World) : Prop := ∃ v, e = .returned v ∧ SlS t w' v l ∧ Pu w w'

/-- A new block of strings, read whole. -/
theorem SlS.alloc (t : TypeId) (w : World) (l : List Str) : SlS t (w.alloc (.cells (l.map fun s => Value.string (mkB s)).toArray t)) (.slice (some ⟨w.heap.size, 0, none⟩) l.length l.length) l :=
  Sl.of_blk (fr := (0, 0)) (heap_alloc_new w _) (by simp)
theorem SlS.nil (t : TypeId) (w : World) : SlS t w (.slice none 0 0) [] := Sl.nil t 1 w
theorem SlS.pu {t : TypeId} {w w' : World} {v : Value} {l : List Str} (h : SlS t w v l) (hp : Pu w w') : SlS t w' v l := Sl.pu h hp
theorem pu_alloc (w : World) (o : Obj) : Pu w (w.alloc o) := (Below.refl _ _).alloc (Nat.le_refl _) _
theorem Pu.tr {a b c : World} (h : Pu a b) (k : Pu b c) : Pu a c := Below.trans h (k.mono h.size)

/-- The first j elements. -/
theorem Sl.take {t : TypeId} {sz : Nat} {w : World} {b off n cap : Nat} {cs : List Value} (h : Sl t sz w (.slice (some ⟨b, off, none⟩) n cap) n cs) (j : Nat) (hj : j ≤ n) :
    Sl t sz w (.slice (some ⟨b, off, none⟩) j cap) j (cs.take (j * sz)) := by
  have := h.cut 0 j (Nat.zero_le _) hj
  simpa using this
theorem SlS.take {t : TypeId} {w : World} {b off n cap : Nat} {l : List Str} (h : SlS t w (.slice (some ⟨b, off, none⟩) n cap) l) (hn : n = l.length) (j : Nat) (hj : j ≤ n) :
    SlS t w (.slice (some ⟨b, off, none⟩) j cap) (l.take j) := by
  subst hn
  have := Sl.take h j hj
  unfold SlS
  rw [List.length_take, Nat.min_eq_left hj, List.map_take]
  simpa using this
/-- A slice of strings that is not empty: its address; its cells. -/
theorem SlS.pos {t : TypeId} {w : World} {v : Value} {l : List Str} (h : SlS t w v l) (hn : 0 < l.length) :
    ∃ b off cap, v = .slice (some ⟨b, off, none⟩) l.length cap ∧ l.length ≤ cap ∧ b < w.heap.size ∧ ∀ j (hj : j < l.length), w.cell? ⟨b, off + j, none⟩ = some (.string (mkB l[j])) := by
  obtain ⟨b, off, cap, h1, h2, h3, h4⟩ := Sl.pos h hn
  exact ⟨b, off, cap, h1, h2, h3, fun j hj => by rw [h4 j (by omega)]; simp [hj]⟩
theorem SlS.zero {t : TypeId} {w : World} {v : Value} (h : SlS t w v []) : ∃ a cap, v = .slice a 0 cap ∧ (a = none → cap = 0) := by
  obtain ⟨a, cap, h1, _, h2, _⟩ := Sl.form h
  exact ⟨a, cap, h1, fun ha => (h2 ha).2⟩
/-- The value is a slice of so many. -/
theorem SlS.len {t : TypeId} {w : World} {v : Value} {l : List Str} (h : SlS t w v l) : ∃ a cap, v = .slice a l.length cap := by
  obtain ⟨a, cap, h1, _⟩ := Sl.form h
  exact ⟨a, cap, h1⟩

theorem there_of_blk {w : World} {b : Nat} {c : Array Value} {t : TypeId} (h : w.heap[b]? = some (.cells c t (0, 0))) (o n : Nat) (hn : o + n ≤ c.size) : w.there b o n :=
  fun j hj => ⟨by rw [cell_of_blk h]; simp; omega, frozen_of_blk h⟩
theorem rangeAt_of_blk {w : World} {b : Nat} {cs : List Value} {t : TypeId} {fr : Nat × Nat} (h : w.heap[b]? = some (.cells cs.toArray t fr)) : w.rangeAt b 0 cs :=
  fun j v hv => by rw [cell_of_blk h, Nat.zero_add]; simpa using hv
theorem setCells_blk (b : Nat) : ∀ (vs : List Value) (o : Nat) (w : World) (c : Array Value) (t : TypeId) (fr : Nat × Nat), w.heap[b]? = some (.cells c t fr) →
    ∃ c' : Array Value, (w.setCells b o vs).heap[b]? = some (.cells c' t fr) ∧ c'.size = c.size
  | [], _, _, c, _, _, h => ⟨c, h, rfl⟩
  | v :: r, o, w, c, t, fr, h => by
    obtain ⟨c', h2, h3⟩ := setCells_blk b r (o + 1) _ _ t fr (setCell_blk h o v)
    exact ⟨c', h2, by rw [h3]; simp⟩
theorem setCells_full {b : Nat} {vs : List Value} {w : World} {c : Array Value} {t : TypeId} {fr : Nat × Nat} (h : w.heap[b]? = some (.cells c t fr)) (hl : vs.length = c.size) :
    (w.setCells b 0 vs).heap[b]? = some (.cells vs.toArray t fr) := by
  obtain ⟨c', h1, h2⟩ := setCells_blk b vs 0 w c t fr h
  have e : c' = vs.toArray := by
    apply Array.ext
    · simp [h2, hl]
    · intro j h3 h4
      have := World.cell?_setCells_in b vs 0 w (fun k hk => by rw [cell_of_blk h]; simp; omega) j (by simpa using h4)
      rw [Nat.zero_add, cell_of_blk h1, Array.getElem?_eq_getElem h3] at this
      simpa using this
  rw [h1, e]
theorem setCells_size (b : Nat) : ∀ (vs : List Value) (o : Nat) (w : World), (w.setCells b o vs).heap.size = w.heap.size
  | [], _, _ => rfl
  | v :: r, o, w => by rw [World.setCells, setCells_size b r]; simp
theorem setCells_fr (b : Nat) : ∀ (vs : List Value) (o : Nat) (w : World), Fr (fun x => x = b) w (w.setCells b o vs)
  | [], _, w => Fr.refl _ w
  | v :: r, o, w => (fr_set (Fr.refl _ w) o v).trans (setCells_fr b r (o + 1) _) (fun _ _ h => h)


/-- A STRUCT STORED WHOLE INTO A BLOCK OF ITS SIZE. -/
theorem wpl_store_whole {P : Program} {ops : Array Oper} {rest : List Oper} {o : Oper} {a : Act} {w : World} {Q : Exit → Act → World → Prop} (hgd : o.guard = none) (ty : TypeId) (x y : Operand) (ho : o.op = .store ty x y)
    (b : Nat) (cells : Array Value) (hx : a.eval x = .pointer (some ⟨b, 0, none⟩)) (hy : a.eval y = .agg cells) (c : Array Value) (e : TypeId) (hb : w.heap[b]? = some (.cells c e (0, 0))) (hc : cells.size = c.size)
    (hi : (P.info? ty).map (·.size) = some cells.size) (h1 : cells.all (·.oneCell') = true)
    (h : ∀ w', w'.heap[b]? = some (.cells cells e (0, 0)) → Fr (fun x => x = b) w w' → w'.heap.size = w.heap.size → wpList P ops Q rest (a.put o.dst undef) w') : wpList P ops Q (o :: rest) a w :=
  wpList_store_mid hgd ty x y ho b 0 cells hx hy (there_of_blk hb 0 cells.size (by omega)) hi h1
    (h _ (by have := setCells_full (vs := cells.toList) hb (by simpa using hc); simpa using this) (setCells_fr b _ _ _) (setCells_size b _ _ _))

/-- A result that lies in a block. -/
theorem results_cell {P : Program} {fn : Func} {t : Tmp} {ty : TypeId} (h : fn.results = #[.cell t ty]) {tmps : Array Value} {b : Nat} (hb : tmps.getD t undef = .pointer (some ⟨b, 0, none⟩)) {w : World} {cs : List Value} {e : TypeId} {fr : Nat × Nat}
    (hw : w.heap[b]? = some (.cells cs.toArray e fr)) (d : TypeDesc) (hu : P.underlying ty = some d) (hd : d.isRow = true) (hi : (P.info? ty).map (·.size) = some cs.length) :
    (results fn tmps).run P w = .ok (.agg cs.toArray) w := by
  have hr := run_loadVar_mid w b 0 ty cs d (rangeAt_of_blk hw) hu hd hi
  have hb' : tmps[t]?.getD undef = .pointer (some ⟨b, 0, none⟩) := by simpa using hb
  simp [results, h, hb', asAddr, hr]

/-- New blocks, one behind the other. -/
theorem al1 (w : World) (a : Obj) : (w.alloc a).heap[w.heap.size]? = some a := heap_alloc_new w a
theorem al_old (w : World) (a : Obj) {k : Nat} {o : Obj} (h : w.heap[k]? = some o) : (w.alloc a).heap[k]? = some o := by
  rw [Below.heap_alloc _ _ _ (lt_of_blk h)]; exact h
theorem al2a (w : World) (a b : Obj) : ((w.alloc a).alloc b).heap[w.heap.size]? = some a := al_old _ _ (al1 w a)
theorem al2b (w : World) (a b : Obj) : ((w.alloc a).alloc b).heap[w.heap.size + 1]? = some b := by have := al1 (w.alloc a) b; rwa [World.size_alloc] at this
theorem al3a (w : World) (a b c : Obj) : (((w.alloc a).alloc b).alloc c).heap[w.heap.size]? = some a := al_old _ _ (al2a w a b)
theorem al3b (w : World) (a b c : Obj) : (((w.alloc a).alloc b).alloc c).heap[w.heap.size + 1]? = some b := al_old _ _ (al2b w a b)
theorem al3c (w : World) (a b c : Obj) : (((w.alloc a).alloc b).alloc c).heap[w.heap.size + 2]? = some c := by have := al2b (w.alloc a) b c; rwa [World.size_alloc] at this
theorem pu_of_fr {a w w' : World} {b : Nat} (h : Pu a w) (k : Fr (fun x => x = b) w w') (hb : a.heap.size ≤ b) : Pu a w' :=
  ⟨k.os.trans h.os, k.tape.trans h.tape, k.output.trans h.output, Nat.le_trans h.size k.size, fun i hi => (k.keep i (Nat.lt_of_lt_of_le hi h.size) (fun e => by omega)).trans (h.block i hi)⟩
theorem pu_set {a w : World} (h : Pu a w) {b : Nat} (hb : a.heap.size ≤ b) (o : Nat) (v : Value) : Pu a (w.setCell ⟨b, o, none⟩ v) := pu_of_fr h (fr_set (Fr.refl _ w) o v) hb
/-- What reads as strings lies in blocks of strings: others may be written. -/
theorem SlS.fr {t t' : TypeId} {w w' : World} {v : Value} {l : List Str} (h : SlS t w v l) {b : Nat} {c : Array Value} {fr : Nat × Nat} (hb : w.heap[b]? = some (.cells c t' fr)) (hne : t' ≠ t) (k : Fr (fun x => x = b) w w') : SlS t w' v l :=
  Sl.keep h fun i _ _ hi => k.keep i (lt_of_blk hi) (fun e => by rw [e, hb] at hi; simp at hi; exact hne hi.2.1)

end Go.Av
