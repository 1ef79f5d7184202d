/- Part 2 of a proof in parts: what the code of these packages does, and plain facts about it (PathM, OpM). No condition of its own. -/
import Derived.Test.YtmigbgfgnhkmnaaGreatDoorZx1
import Derived.Lib.Split
import Derived.Lib.SplitLaws
import Derived.Lib.Join
import Derived.Lib.ItoaNum
import Derived.Lib.Repeat
/- The paths of chapter 1, as plain functions on lists of bytes. -/
namespace Go.Av

def okByte (c : UInt8) : Bool := decide (33 ≤ c.toNat) && decide (c.toNat ≤ 126)
/-- May a text without a slash be a name? -/
def nameOk (l : Str) : Bool := l.all okByte && (decide (1 ≤ l.length) && (decide (l.length ≤ 40) && (!(l == [46]) && !(l == [46, 46]))))
/-- A text, cut at each slash. -/
def pieces : Str → List Str
  | [] => [[]]
  | c :: r => if c = 47 then [] :: pieces r else match pieces r with
    | [] => [[c]]
    | p :: q => (c :: p) :: q
def restOf (p : Str) : Option Str := match p with | 47 :: r => some r | _ => none
theorem restOf_some {p r : Str} (h : restOf p = some r) : p = 47 :: r := by
  unfold restOf at h
  split at h
  · cases h; rfl
  · cases h
def good (p : Str) : Bool := match restOf p with
  | none => false
  | some r => decide (p.length ≤ 200) && ((pieces r).all nameOk && decide ((pieces r).length ≤ 8))
def parts (p : Str) : List Str := if good p then pieces (p.drop 1) else []
def joinS (l : List Str) : Str := Lib.join l [47]
def parent (p : Str) : Option Str := if (parts p).length < 2 then none else some (47 :: joinS (parts p).dropLast)
def nameOf (p : Str) : Str := (parts p).getLastD []
def topOf (p : Str) : Str := (parts p).headD []

theorem all_take {s : Str} {k : Nat} (h : (s.take k).all okByte = true) (hk : k < s.length) (hb : okByte s[k] = true) : (s.take (k + 1)).all okByte = true := by
  rw [List.take_succ_eq_append_getElem hk, List.all_append, h]; simpa using hb
theorem name_bad {s : Str} {k : Nat} (hk : k < s.length) (hb : okByte s[k] = false) : nameOk s = false := by
  have : s.all okByte = false := by
    rw [Bool.eq_false_iff]; intro h
    have := List.all_eq_true.1 h s[k] (List.getElem_mem hk)
    rw [hb] at this; cases this
  simp [nameOk, this]
theorem name_good {s : Str} (h : s.all okByte = true) (b : Bool) (hb : b = (decide (1 ≤ s.length) && (decide (s.length ≤ 40) && (!(s == [46]) && !(s == [46, 46]))))) : b = nameOk s := by
  rw [nameOk, h, hb]; rfl

/-- What strings.Split at a slash gives are the pieces. -/
theorem splitK_pieces : ∀ l : Str, Lib.splitK [47] 0 (Lib.count l [47]) l = pieces l
  | [] => rfl
  | c :: r => by
    have ih := splitK_pieces r
    by_cases hc : c = 47
    · subst hc
      have e0 : Lib.index (47 :: r) [47] = 0 := by rw [Lib.index_one]; rfl
      rw [Lib.count_cons_eq, Nat.add_comm, Lib.splitK, e0]
      simp [pieces, ih]
    · rw [Lib.count_cons_ne _ _ _ hc]
      have ei : Lib.index (c :: r) [47] = if Lib.index r [47] == -1 then -1 else Lib.index r [47] + 1 := by
        rw [Lib.index_one, Lib.index_one, Lib.indexByte]
        have : (c == 47) = false := by simpa using hc
        rw [this]; rfl
      have hp : pieces (c :: r) = match pieces r with | [] => [[c]] | p :: q => (c :: p) :: q := by rw [pieces, if_neg hc]
      rw [hp, ← ih]
      cases hk : Lib.count r [47] with
      | zero => rfl
      | succ k =>
        have hpos : Lib.index r [47] ≠ -1 := by
          intro h; rw [Lib.count_miss h] at hk; cases hk
        have hge := Lib.index_ge r [47]
        rw [Lib.splitK, Lib.splitK, ei]
        have h1 : (Lib.index r [47] == -1) = false := by simpa using hpos
        simp only [h1, Bool.false_eq_true, if_false]
        have h2 : (Lib.index r [47] + 1 == -1) = false := by simp; omega
        simp only [h2, Bool.false_eq_true, if_false]
        obtain ⟨i, hi⟩ : ∃ i : Nat, Lib.index r [47] = i := ⟨(Lib.index r [47]).toNat, by omega⟩
        rw [hi]
        have e3 : ((i : Int) + 1).toNat = i + 1 := by omega
        have e4 : ((i : Int)).toNat = i := by omega
        rw [e3, e4]
        simp

theorem splitB_pieces (l : Str) : (Lib.splitB ⟨#[47]⟩ 0 (Lib.countB (mkB l) ⟨#[47]⟩) (mkB l)) = (pieces l).map mkB := by
  have h := Lib.splitB_data ⟨#[47]⟩ 0 (Lib.countB (mkB l) ⟨#[47]⟩) (mkB l)
  have e : Lib.countB (mkB l) ⟨#[47]⟩ = Lib.count l [47] := rfl
  rw [e] at h ⊢
  have h' : (Lib.splitB ⟨#[47]⟩ 0 (Lib.count l [47]) (mkB l)).map (·.data.toList) = pieces l := by rw [h]; exact splitK_pieces l
  rw [← h', List.map_map]
  conv => lhs; rw [← List.map_id (Lib.splitB _ _ _ _)]
  apply List.map_congr_left
  intro x _
  exact (mkB_of x).symm

theorem countB_pieces (l : Str) : Lib.countB (mkB l) ⟨#[47]⟩ + 1 = (pieces l).length := by
  have := Lib.splitB_all ⟨#[47]⟩ (by decide) 0 _ (mkB l) rfl
  rw [← this, splitB_pieces]; simp

theorem pieces_ne : ∀ l : Str, pieces l ≠ []
  | [] => by simp [pieces]
  | c :: r => by
    unfold pieces
    split
    · simp
    · split <;> simp
theorem pieces_pos (l : Str) : 1 ≤ (pieces l).length := by
  have := pieces_ne l
  cases h : pieces l with
  | nil => exact absurd h this
  | cons a b => simp
theorem pieces_len : ∀ l : Str, (pieces l).length ≤ l.length + 1
  | [] => by simp [pieces]
  | c :: r => by
    have := pieces_len r
    unfold pieces
    split
    · simp; omega
    · split
      · simp
      · rename_i h; rw [h] at this; simp at this ⊢; omega

theorem pieces_elem : ∀ (l x : Str), x ∈ pieces l → x.length ≤ l.length
  | [], x, h => by simp [pieces] at h; subst h; simp
  | c :: r, x, h => by
    have ih := pieces_elem r
    unfold pieces at h
    split at h
    · rcases List.mem_cons.1 h with rfl | h
      · simp
      · have := ih x h; simp; omega
    · split at h
      · simp at h; subst h; simp
      · rename_i p q hp
        rcases List.mem_cons.1 h with rfl | h
        · have := ih p (by rw [hp]; simp); simp; omega
        · have := ih x (by rw [hp]; simp [h]); simp; omega

theorem names_take {l : List Str} {k : Nat} (h : (l.take k).all nameOk = true) (hk : k < l.length) (hb : nameOk l[k] = true) : (l.take (k + 1)).all nameOk = true := by
  rw [List.take_succ_eq_append_getElem hk, List.all_append, h]; simpa using hb
theorem good_bad {r : Str} {k : Nat} (hk : k < (pieces r).length) (hb : nameOk (pieces r)[k] = false) : good (47 :: r) = false := by
  have : (pieces r).all nameOk = false := by
    rw [Bool.eq_false_iff]; intro h
    have := List.all_eq_true.1 h _ (List.getElem_mem hk)
    rw [hb] at this; cases this
  simp [good, restOf, this]
theorem good_end {r : Str} (h : (pieces r).all nameOk = true) (hl : r.length + 1 ≤ 200) : good (47 :: r) = decide ((pieces r).length ≤ 8) := by
  simp [good, restOf, h]; omega

theorem parts_len (p : Str) : (parts p).length ≤ 8 := by
  unfold parts
  split
  · rename_i h
    unfold good at h
    split at h
    · cases h
    · rename_i r hr
      have := restOf_some hr
      subst this
      simp at h ⊢
      exact h.2.2
  · simp
theorem join_cons2 (a b : Str) (l : List Str) : joinS (a :: b :: l) = a ++ 47 :: joinS (b :: l) := by
  simp [joinS, Lib.join, List.intercalate, List.intersperse]
theorem join_one (a : Str) : joinS [a] = a := by simp [joinS, Lib.join, List.intercalate]
theorem join_pieces : ∀ l : Str, joinS (pieces l) = l
  | [] => rfl
  | c :: r => by
    have ih := join_pieces r
    unfold pieces
    split
    · rename_i h
      subst h
      cases hp : pieces r with
      | nil => exact absurd hp (pieces_ne r)
      | cons a b => rw [join_cons2, ← hp, ih]; rfl
    · cases hp : pieces r with
      | nil => exact absurd hp (pieces_ne r)
      | cons a b =>
        rw [hp] at ih
        cases b with
        | nil => rw [join_one] at ih; simp only []; rw [join_one, ih]
        | cons b bs => rw [join_cons2] at ih; simp only []; rw [join_cons2, ← ih]; rfl
theorem join_dropLast_le : ∀ l : List Str, (joinS l.dropLast).length ≤ (joinS l).length
  | [] => by simp
  | [a] => by simp [joinS, Lib.join, List.intercalate]
  | [a, b] => by rw [join_cons2]; simp [join_one]
  | a :: b :: c :: l => by
    have := join_dropLast_le (b :: c :: l)
    simp only [List.dropLast] at this ⊢
    rw [join_cons2]
    cases h : (b :: (c :: l).dropLast) with
    | nil => cases h
    | cons x y =>
      rw [h] at this; rw [join_cons2]; simp only [List.length_append, List.length_cons] at this ⊢; omega
theorem joinS_dropLast (p : Str) : (joinS (parts p).dropLast).length ≤ 200 := by
  have h := join_dropLast_le (parts p)
  unfold parts at h ⊢
  split at h
  · rename_i hg
    rw [if_pos hg]
    unfold good at hg
    split at hg
    · cases hg
    · rename_i r hr
      have := restOf_some hr
      subst this
      rw [List.drop_one, List.tail_cons] at h ⊢
      rw [join_pieces] at h
      simp at hg
      omega
  · rename_i hg
    rw [if_neg hg]; simp [joinS, Lib.join]

/-- A number in ten digits at least. -/
def pad (n : Int) : Str := List.replicate (10 - (Lib.itoa n).length) 48 ++ Lib.itoa n
def number (p : Str) (n : Int) : Option Str := if good p = true ∧ 0 ≤ n ∧ n ≤ 2147483647 ∧ good (p ++ pad n) = true then some (p ++ pad n) else none
theorem dec_len : ∀ (k u : Nat), u < 10 ^ (k + 1) → (Lib.decDigits u).length ≤ k + 1
  | 0, u, h => by rw [Lib.decDigits, dif_pos (by simpa using h)]; simp
  | k + 1, u, h => by
    rw [Lib.decDigits]
    split
    · simp
    · have := dec_len k (u / 10) (by rw [Nat.pow_succ] at h; omega)
      simp; omega
theorem itoa_len {n : Int} (h0 : 0 ≤ n) (h1 : n ≤ 2147483647) : (Lib.itoa n).length ≤ 10 := by
  rw [Lib.itoa, if_neg (by omega)]
  exact dec_len 9 n.toNat (by omega)
theorem repeat_one (c : Nat) : Lib.repeatL [48] c = List.replicate c 48 := by
  induction c with
  | zero => rfl
  | succ c ih => rw [Lib.repeatL, ih, List.replicate_succ]; rfl

end Go.Av

/- Chapter 5's requests, as plain functions. -/
namespace Go.Av

structure OpD where
  kind : Int
  path : Str
  data : Str
  version : Int
  flags : Int
  deriving DecidableEq, Inhabited

def OpD.cells (o : OpD) : List Value := [.int .i64 o.kind, .string (mkB o.path), .string (mkB o.data), .int .i64 o.version, .int .i64 o.flags]
def OpD.val (o : OpD) : Value := .agg #[.int .i64 o.kind, .string (mkB o.path), .string (mkB o.data), .int .i64 o.version, .int .i64 o.flags]
attribute [go_sem] OpD.val

/-- Does a sequential one's flag stand? -/
def seqB (f : Int) : Bool := bits .and .i64 f 2 != 0
def ephB (f : Int) : Bool := bits .and .i64 f 1 != 0
def formedB (o : OpD) : Bool := decide (1 ≤ o.kind) && (decide (o.kind ≤ 7) && (good o.path && (decide (-1 ≤ o.version) && (decide (0 ≤ o.flags) && decide (o.flags ≤ 3)))))
def versionedB (k : Int) : Bool := k == 2 || (k == 3 || k == 4)
def ownB (o : OpD) : Bool := (o.data == [] || (o.kind == 1 || o.kind == 3)) && ((o.version == 0 || versionedB o.kind) && (o.flags == 0 || o.kind == 1))
def numberedB (o : OpD) : Bool := !seqB o.flags || (decide (1 < (parts o.path).length) && (number o.path 0).isSome)
def opGood (o : OpD) : Int := if formedB o = false then 1 else if 1000 < o.data.length then 2 else if ownB o = false ∨ numberedB o = false then 1 else 0
def readsB (k : Int) : Bool := k == 5 || (k == 6 || k == 7)

structure Req where
  sess : Int
  num : Int
  ops : List OpD
  deriving DecidableEq, Inhabited

/-- The first that is wrong among so many, and why. -/
def firstBad : List OpD → Int
  | [] => 0
  | o :: r => if opGood o ≠ 0 then opGood o else firstBad r
def may (r : Req) : Int :=
  if r.sess < 1 ∨ r.num < 1 ∨ r.ops = [] then 1 else if 16 < r.ops.length then 2 else if firstBad r.ops ≠ 0 then firstBad r.ops else if 1 < r.ops.length ∧ r.ops.any (fun o => readsB o.kind) = true then 1 else 0

def ocells (l : List OpD) : List Value := l.flatMap OpD.cells
theorem ocells_len (l : List OpD) : (ocells l).length = l.length * 5 := by
  induction l with
  | nil => rfl
  | cons a r ih => simp only [ocells, List.flatMap_cons, List.length_append, List.length_cons] at ih ⊢; rw [ih]; simp [OpD.cells]; omega
theorem ocells_get (l : List OpD) (j : Nat) (hj : j < l.length) (i : Nat) (hi : i < 5) : (ocells l)[j * 5 + i]? = (l[j]).cells[i]? := by
  induction l generalizing j with
  | nil => simp at hj
  | cons a r ih =>
    simp only [ocells, List.flatMap_cons]
    cases j with
    | zero => simp only [Nat.zero_mul, Nat.zero_add, List.getElem_cons_zero]; rw [List.getElem?_append_left (by simpa [OpD.cells] using hi)]
    | succ j =>
      have hl : a.cells.length = 5 := rfl
      rw [List.getElem?_append_right (by rw [hl]; omega), hl, show (j + 1) * 5 + i - 5 = j * 5 + i by omega]
      exact ih j (by simpa using hj)

/-- The slice reads as these. -/
def SlO (t : TypeId) (w : World) (v : Value) (l : List OpD) : Prop := Sl t 5 w v l.length (ocells l)
theorem SlO.pu {t : TypeId} {w w' : World} {v : Value} {l : List OpD} (h : SlO t w v l) (hp : Pu w w') : SlO t w' v l := Sl.pu h hp
theorem SlO.len {t : TypeId} {w : World} {v : Value} {l : List OpD} (h : SlO t w v l) : ∃ a cap, v = .slice a l.length cap ∧ l.length ≤ cap := by
  obtain ⟨a, cap, h1, h2, _⟩ := Sl.form h
  exact ⟨a, cap, h1, h2⟩
theorem SlO.pos {t : TypeId} {w : World} {v : Value} {l : List OpD} (h : SlO t w v l) (hn : 0 < l.length) :
    ∃ b off cap, v = .slice (some ⟨b, off, none⟩) l.length cap ∧ l.length ≤ cap ∧ b < w.heap.size ∧ ∀ j (hj : j < l.length),
      w.cell? ⟨b, off + j * 5, none⟩ = some (.int .i64 l[j].kind) ∧ w.cell? ⟨b, off + j * 5 + 1, none⟩ = some (.string (mkB l[j].path)) ∧ w.cell? ⟨b, off + j * 5 + 2, none⟩ = some (.string (mkB l[j].data)) ∧
      w.cell? ⟨b, off + j * 5 + 3, none⟩ = some (.int .i64 l[j].version) ∧ w.cell? ⟨b, off + j * 5 + 4, none⟩ = some (.int .i64 l[j].flags) := by
  obtain ⟨b, off, cap, h1, h2, h3, h4⟩ := Sl.pos h hn
  refine ⟨b, off, cap, h1, h2, h3, fun j hj => ?_⟩
  have g := fun (i : Nat) (hi : i < 5) => (h4 (j * 5 + i) (by omega)).trans (ocells_get l j hj i hi)
  have e := fun (i : Nat) => Nat.add_assoc off (j * 5) i
  refine ⟨g 0 (by omega), ?_, ?_, ?_, ?_⟩
  · rw [e]; exact g 1 (by omega)
  · rw [e]; exact g 2 (by omega)
  · rw [e]; exact g 3 (by omega)
  · rw [e]; exact g 4 (by omega)

theorem firstBad_take {l : List OpD} {k : Nat} (h : firstBad (l.take k) = 0) (hk : k < l.length) : firstBad (l.take (k + 1)) = opGood l[k] := by
  induction l generalizing k with
  | nil => simp at hk
  | cons a r ih =>
    cases k with
    | zero => simp [firstBad]; intro h; rw [h]
    | succ k =>
      simp only [List.take_succ_cons, firstBad, List.getElem_cons_succ] at h ⊢
      by_cases ha : opGood a ≠ 0
      · rw [if_pos ha] at h; exact absurd h ha
      · rw [if_neg ha] at h ⊢; exact ih h (by simpa using hk)
theorem firstBad_hit {l : List OpD} {k : Nat} (h : firstBad (l.take k) = 0) (hk : k < l.length) (hb : opGood l[k] ≠ 0) : firstBad l = opGood l[k] := by
  induction l generalizing k with
  | nil => simp at hk
  | cons a r ih =>
    cases k with
    | zero => simp only [List.getElem_cons_zero] at hb ⊢; rw [firstBad, if_pos hb]
    | succ k =>
      simp only [List.take_succ_cons, firstBad, List.getElem_cons_succ] at h hb ⊢
      by_cases ha : opGood a ≠ 0
      · rw [if_pos ha] at h; exact absurd h ha
      · rw [if_neg ha] at h ⊢; exact ih h (by simpa using hk) hb

/-- The slice reads as these, whatever block it lies in; an empty one may point anywhere. -/
def SlX (w : World) (v : Value) (l : List OpD) : Prop := (l = [] ∧ ∃ a cap, v = .slice a 0 cap) ∨ ∃ t, SlO t w v l
theorem SlX.pu {w w' : World} {v : Value} {l : List OpD} (h : SlX w v l) (hp : Pu w w') : SlX w' v l := by
  rcases h with h | ⟨t, h⟩
  · exact .inl h
  · exact .inr ⟨t, h.pu hp⟩
theorem SlX.len {w : World} {v : Value} {l : List OpD} (h : SlX w v l) : ∃ a cap, v = .slice a l.length cap := by
  rcases h with ⟨rfl, a, cap, h⟩ | ⟨t, h⟩
  · exact ⟨a, cap, h⟩
  · obtain ⟨a, cap, h1, _⟩ := h.len; exact ⟨a, cap, h1⟩
theorem SlX.real {w : World} {v : Value} {l : List OpD} (h : SlX w v l) (hl : 0 < l.length) : ∃ t, SlO t w v l := by
  rcases h with ⟨rfl, _⟩ | h
  · simp at hl
  · exact h
theorem Sl.keep1 {t : TypeId} {sz : Nat} {M : Nat → Prop} {w w' : World} {v : Value} {n : Nat} {cs : List Value} (h : Sl t sz w v n cs) (hf : Fr M w w') (hs : ∀ a k c, v = .slice (some a) k c → ¬ M a.block) : Sl t sz w' v n cs := by
  obtain ⟨h1, h2⟩ := h
  refine ⟨h1, ?_⟩
  rcases h2 with h2 | ⟨b, off, cap, c, fr, a1, a2, a3, a4, a5⟩
  · exact .inl h2
  · exact .inr ⟨b, off, cap, c, fr, a1, a2, (hf.keep b (lt_of_blk a3) (hs _ _ _ a1)).trans a3, a4, a5⟩

end Go.Av
