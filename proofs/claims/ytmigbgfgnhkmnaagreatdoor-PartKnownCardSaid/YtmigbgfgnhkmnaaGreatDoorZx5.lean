/- Part 5 of a proof in parts: what the code of these packages does, and plain facts about it (AlistM, Lib1, StatM, ReplyM, TreeM, MultiM, LockM, PartM, PurgeM, MapV, PartL). No condition of its own. -/
import Derived.Test.YtmigbgfgnhkmnaaGreatDoorZx4
import Derived.Maps.OwnSet
import Derived.Maps.RangeWalk
/- Sorted lists of pairs, as plain data: what a Go map holds. -/
namespace Go.Av

/-- Keys that a Go map can have, with their order. -/
class Key (K : Type) [DecidableEq K] where
  lit : K → Lit
  kv : K → Value
  lt : K → K → Bool
  before_lit : ∀ a b, (lit a).before (lit b) = lt a b
  same_lit : ∀ a b, (lit a).sameKey (lit b) = (a == b)
  same_inv : ∀ a x, (lit a).sameKey x = true → x = lit a
  irrefl : ∀ a, lt a a = false
  trans : ∀ a b c, lt a b = true → lt b c = true → lt a c = true
  total : ∀ a b, a ≠ b → lt a b = true ∨ lt b a = true

instance : Key Str where
  lit s := .string s
  kv s := .string (mkB s)
  lt a b := bytesBefore a b
  before_lit _ _ := rfl
  same_lit a b := by rw [Bool.eq_iff_iff]; simp [Lit.sameKey]
  same_inv a x h := by cases x <;> simp_all [Lit.sameKey]
  irrefl := WideAt.bytes_irrefl
  trans := WideShapes.bytes_trans
  total := WideAt.bytes_total

instance : Key Int where
  lit n := .int .i64 n
  kv n := .int .i64 n
  lt a b := decide (a < b)
  before_lit _ _ := rfl
  same_lit a b := by rw [Bool.eq_iff_iff]; simp [Lit.sameKey]
  same_inv a x h := by cases x <;> simp_all [Lit.sameKey]
  irrefl a := by simp
  trans a b c := by simp; omega
  total a b h := by simp; omega

section
variable {K V : Type} [DecidableEq K] [Key K]

def ains (x : K × V) : List (K × V) → List (K × V)
  | [] => [x]
  | y :: r => if Key.lt x.1 y.1 then x :: y :: r else y :: ains x r
def adel (k : K) (l : List (K × V)) : List (K × V) := l.filter fun e => !(e.1 == k)
def aput (k : K) (v : V) (l : List (K × V)) : List (K × V) := ains (k, v) (adel k l)
def aget (k : K) (l : List (K × V)) : Option V := (l.find? fun e => e.1 == k).map (·.2)
def asorted (l : List (K × V)) : Prop := l.Pairwise fun a b => Key.lt a.1 b.1 = true

theorem mem_ains {x y : K × V} {l : List (K × V)} : y ∈ ains x l ↔ y = x ∨ y ∈ l := by
  induction l with
  | nil => simp [ains]
  | cons a r ih =>
    unfold ains
    split
    · simp
    · simp [ih]; grind
theorem length_ains (x : K × V) (l : List (K × V)) : (ains x l).length = l.length + 1 := by
  induction l with
  | nil => rfl
  | cons a r ih => unfold ains; split <;> simp [ih]
omit [Key K] in
theorem mem_adel {k : K} {y : K × V} {l : List (K × V)} : y ∈ adel k l ↔ y ∈ l ∧ y.1 ≠ k := by simp [adel]
theorem adel_sorted {k : K} {l : List (K × V)} (h : asorted l) : asorted (adel k l) := List.Pairwise.filter _ h
theorem ains_sorted {x : K × V} {l : List (K × V)} (h : asorted l) (hx : ∀ y ∈ l, y.1 ≠ x.1) : asorted (ains x l) := by
  induction l with
  | nil => simp [ains, asorted]
  | cons a r ih =>
    obtain ⟨h1, h2⟩ := List.pairwise_cons.1 h
    unfold ains
    split
    · rename_i hlt
      refine List.pairwise_cons.2 ⟨fun y hy => ?_, h⟩
      rcases List.mem_cons.1 hy with rfl | hy
      · exact hlt
      · exact Key.trans _ _ _ hlt (h1 y hy)
    · rename_i hlt
      refine List.pairwise_cons.2 ⟨fun y hy => ?_, ih h2 fun y hy => hx y (by simp [hy])⟩
      rcases mem_ains.1 hy with rfl | hy
      · rcases Key.total a.1 y.1 (hx a (by simp)) with h | h
        · exact h
        · exact absurd h hlt
      · exact h1 y hy
theorem aput_sorted {k : K} {v : V} {l : List (K × V)} (h : asorted l) : asorted (aput k v l) := ains_sorted (adel_sorted h) fun _ hy => (mem_adel.1 hy).2
theorem asorted_nil : asorted ([] : List (K × V)) := List.Pairwise.nil

omit [Key K] in
theorem aget_none {k : K} {l : List (K × V)} : aget k l = none ↔ ∀ y ∈ l, y.1 ≠ k := by simp [aget, List.find?_eq_none]
omit [Key K] in
theorem aget_mem {k : K} {v : V} {l : List (K × V)} (h : aget k l = some v) : (k, v) ∈ l := by
  unfold aget at h
  obtain ⟨e, he, rfl⟩ := Option.map_eq_some_iff.1 h
  have h1 := List.mem_of_find?_eq_some he
  have h2 := List.find?_some he
  simp at h2
  rw [← h2]; exact h1
theorem sorted_inj {l : List (K × V)} (h : asorted l) {x y : K × V} (hx : x ∈ l) (hy : y ∈ l) (hk : x.1 = y.1) : x = y := by
  induction l with
  | nil => simp at hx
  | cons a r ih =>
    obtain ⟨h1, h2⟩ := List.pairwise_cons.1 h
    rcases List.mem_cons.1 hx with rfl | hx' <;> rcases List.mem_cons.1 hy with rfl | hy'
    · rfl
    · have := h1 y hy'; rw [hk, Key.irrefl] at this; cases this
    · have := h1 x hx'; rw [← hk, Key.irrefl] at this; cases this
    · exact ih h2 hx' hy'
theorem aget_of_mem {l : List (K × V)} (h : asorted l) {k : K} {v : V} (hm : (k, v) ∈ l) : aget k l = some v := by
  cases hg : aget k l with
  | none => exact absurd rfl (aget_none.1 hg _ hm)
  | some u => have := sorted_inj h hm (aget_mem hg) rfl; simp at this; rw [this]
theorem aget_iff {l : List (K × V)} (h : asorted l) {k : K} {v : V} : aget k l = some v ↔ (k, v) ∈ l := ⟨aget_mem, aget_of_mem h⟩
theorem aget_aput {l : List (K × V)} (h : asorted l) (k j : K) (v : V) : aget j (aput k v l) = if j = k then some v else aget j l := by
  split
  · rename_i hj; subst hj
    exact aget_of_mem (aput_sorted h) (mem_ains.2 (.inl rfl))
  · rename_i hj
    cases hg : aget j l with
    | none =>
      refine aget_none.2 fun y hy => ?_
      rcases mem_ains.1 hy with rfl | hy
      · exact fun e => hj e.symm
      · exact aget_none.1 hg y (mem_adel.1 hy).1
    | some u => exact aget_of_mem (aput_sorted h) (mem_ains.2 (.inr (mem_adel.2 ⟨aget_mem hg, hj⟩)))
theorem aget_adel {l : List (K × V)} (h : asorted l) (k j : K) : aget j (adel k l) = if j = k then none else aget j l := by
  split
  · rename_i hj; subst hj
    exact aget_none.2 fun _ hy => (mem_adel.1 hy).2
  · rename_i hj
    cases hg : aget j l with
    | none => exact aget_none.2 fun y hy => aget_none.1 hg y (mem_adel.1 hy).1
    | some u => exact aget_of_mem (adel_sorted h) (mem_adel.2 ⟨aget_mem hg, hj⟩)
omit [Key K] in
theorem adel_none {l : List (K × V)} {k : K} (h : aget k l = none) : adel k l = l := by
  unfold adel
  rw [List.filter_eq_self]
  intro a ha
  simpa using aget_none.1 h a ha
theorem length_adel {l : List (K × V)} (h : asorted l) {k : K} {v : V} (hg : aget k l = some v) : (adel k l).length + 1 = l.length := by
  induction l with
  | nil => simp [aget] at hg
  | cons a r ih =>
    obtain ⟨h1, h2⟩ := List.pairwise_cons.1 h
    by_cases ha : a.1 = k
    · have hr : aget k r = none := aget_none.2 fun y hy e => by have := h1 y hy; rw [e, ← ha, Key.irrefl] at this; cases this
      have e1 : adel k (a :: r) = adel k r := by simp [adel, ha]
      rw [e1, adel_none hr]; rfl
    · have e1 : adel k (a :: r) = a :: adel k r := by simp [adel, ha]
      have e2 : aget k (a :: r) = aget k r := by simp [aget, ha]
      rw [e2] at hg
      rw [e1, List.length_cons, List.length_cons, ih h2 hg]
theorem length_aput {l : List (K × V)} (h : asorted l) (k : K) (v : V) : (aput k v l).length = if (aget k l).isSome then l.length else l.length + 1 := by
  unfold aput
  rw [length_ains]
  cases hg : aget k l with
  | none => rw [adel_none hg]; simp
  | some u => rw [length_adel h hg]; simp
/-- Two of the same entries are one. -/
theorem asorted_ext {l m : List (K × V)} (h : asorted l) (h' : asorted m) (he : ∀ k, aget k l = aget k m) : l = m := by
  have hp : ∀ x, x ∈ l ↔ x ∈ m := fun x => by
    rw [show x = (x.1, x.2) from rfl, ← aget_iff h, ← aget_iff h', he]
  induction l generalizing m with
  | nil =>
    cases m with
    | nil => rfl
    | cons b s => have := (hp b).2 (by simp); simp at this
  | cons a r ih =>
    cases m with
    | nil => have := (hp a).1 (by simp); simp at this
    | cons b s =>
      obtain ⟨h1, h2⟩ := List.pairwise_cons.1 h
      obtain ⟨k1, k2⟩ := List.pairwise_cons.1 h'
      have hab : a = b := by
        rcases List.mem_cons.1 ((hp a).1 (by simp)) with h3 | h3
        · exact h3
        · rcases List.mem_cons.1 ((hp b).2 (by simp)) with h4 | h4
          · exact h4.symm
          · have e1 := k1 a h3
            have e2 := h1 b h4
            have := Key.trans _ _ _ e1 e2
            rw [Key.irrefl] at this; cases this
      subst hab
      have hrs : ∀ x, x ∈ r ↔ x ∈ s := fun x => by
        have := hp x
        simp only [List.mem_cons] at this
        constructor
        · intro hx
          rcases this.1 (.inr hx) with rfl | hs
          · have := h1 x hx; rw [Key.irrefl] at this; cases this
          · exact hs
        · intro hx
          rcases this.2 (.inr hx) with rfl | hs
          · have := k1 x hx; rw [Key.irrefl] at this; cases this
          · exact hs
      rw [ih h2 k2 (fun k => ?_) hrs]
      cases hg : aget k r with
      | none => exact (aget_none.2 fun y hy => aget_none.1 hg y ((hrs y).2 hy)).symm
      | some u => exact (aget_of_mem k2 ((hrs _).1 (aget_mem hg))).symm

/-- As the reader of a Go map's memory has it. -/
def enc (f : K → V → Value) (l : List (K × V)) : List (Lit × DataW Value) := l.map fun e => (Key.lit e.1, DataW.held (f e.1 e.2))
theorem enc_ains (f : K → V → Value) (x : K × V) (l : List (K × V)) : enc f (ains x l) = DataW.insert (Key.lit x.1, .held (f x.1 x.2)) (enc f l) := by
  induction l with
  | nil => rfl
  | cons a r ih =>
    have e : (Key.lit x.1).before (Key.lit a.1) = Key.lt x.1 a.1 := Key.before_lit _ _
    simp only [enc, List.map_cons, DataW.insert, e] at ih ⊢
    unfold ains
    split
    · simp
    · simp [ih]
theorem enc_adel (f : K → V → Value) (k : K) (l : List (K × V)) : enc f (adel k l) = (enc f l).filter fun p => !p.1.sameKey (Key.lit k) := by
  unfold enc adel
  rw [List.filter_map]
  congr 1
  apply List.filter_congr
  intro x _
  simp [Key.same_lit]
theorem enc_aput (f : K → V → Value) (k : K) (v : V) (l : List (K × V)) : DataW.map (enc f (aput k v l)) = (DataW.map (enc f l)).put (Key.lit k) (.held (f k v)) := by
  simp only [aput, enc_ains, enc_adel, DataW.put]
theorem enc_del (f : K → V → Value) (k : K) (l : List (K × V)) : DataW.map (enc f (adel k l)) = (DataW.map (enc f l)).del (Key.lit k) := by
  simp only [enc_adel, DataW.del]
theorem enc_has (f : K → V → Value) (k : K) (l : List (K × V)) : Maps.has (DataW.map (enc f l)) (Key.lit k) = (aget k l).isSome := by
  induction l with
  | nil => rfl
  | cons a r ih =>
    have ih' : (enc f r).any (fun p => p.1.sameKey (Key.lit k)) = (aget k r).isSome := ih
    show ((enc f (a :: r)).any fun p => p.1.sameKey (Key.lit k)) = _
    by_cases ha : a.1 = k
    · simp [enc, aget, ha, Key.same_lit]
    · have e2 : aget k (a :: r) = aget k r := by simp [aget, ha]
      rw [e2, ← ih']
      simp [enc, ha, Key.same_lit]
theorem enc_at (f : K → V → Value) (k : K) (l : List (K × V)) (z : Value) : (DataW.map (enc f l)).atKey (Key.lit k) (.held z) = .held ((aget k l).elim z (f k)) := by
  induction l with
  | nil => rfl
  | cons a r ih =>
    by_cases ha : a.1 = k
    · subst ha
      simp [DataW.atKey, enc, aget, Key.same_lit]
    · have e2 : aget k (a :: r) = aget k r := by simp [aget, ha]
      rw [e2, ← ih]
      simp [DataW.atKey, enc, ha, Key.same_lit]
theorem enc_congr (f g : K → V → Value) (l : List (K × V)) (h : ∀ e ∈ l, f e.1 e.2 = g e.1 e.2) : enc f l = enc g l := by
  apply List.map_congr_left
  intro e he
  rw [h e he]
theorem enc_len (f : K → V → Value) (l : List (K × V)) : Maps.size (DataW.map (enc f l)) = l.length := by simp [Maps.size, enc]
end

end Go.Av

/- slices.Clone, BinarySearch, Insert, Delete at strings, in the words of Base and AlistM. -/
namespace Go.Av
open Go.RowKit

def strV (l : List Str) : List Value := l.map fun s => Value.string (mkB s)
theorem SlS.of_own {w : World} {B : Nat} {t : TypeId} {v : Value} {l : List Str} (h : w.ownsRow B t 1 v l.length (strV l)) : SlS t w v l := by
  obtain ⟨h1, h2⟩ := h
  refine ⟨by simp, ?_⟩
  rcases h2 with h2 | ⟨g, cap, cur, a1, a2, a3, a4, a5, a6, a7⟩
  · exact .inl h2
  · refine .inr ⟨g, 0, cap, cur, (0, 0), a1, a4, a3, by omega, fun j hj => ?_⟩
    simp only [List.length_map] at hj
    rw [Nat.zero_add]
    have : (cur.toList.take (l.length * 1))[j]? = (strV l)[j]? := by rw [a7]
    rw [List.getElem?_take, if_pos (by omega)] at this
    simpa [strV] using this

theorem bytesLess_before : ∀ x y : Str, Op.bytesLess x y = bytesBefore x y
  | [], [] => rfl
  | [], _ :: _ => rfl
  | _ :: _, [] => rfl
  | a :: r, b :: s => by
    have ih := bytesLess_before r s
    show (decide (a < b) || (a == b && Op.bytesLess r s)) = (decide (a < b) || (a == b && bytesBefore r s))
    rw [ih]

theorem setCells_below {B b : Nat} (hb : B ≤ b) : ∀ (vs : List Value) (o : Nat) (w : World), Below B w (w.setCells b o vs)
  | [], _, w => Below.refl B w
  | v :: r, o, w => ((Below.refl B w).setCell (p := ⟨b, o, none⟩) hb v).trans (setCells_below hb r (o + 1) _)
theorem below_drewN {B : Nat} {a w : World} (h : Below B a w) (n : Nat) : Below B a (w.drewN n) := ⟨h.os, h.tape, h.output, h.size, h.block⟩

/-- The block is there; each cell reads so. -/
theorem SlS.of_cells {w : World} {g cap : Nat} {c : Array Value} {t : TypeId} {fr : Nat × Nat} {l : List Str} (hb : w.heap[g]? = some (.cells c t fr)) (hc : cap ≤ c.size) (hl : l.length ≤ cap)
    (h : ∀ j (hj : j < l.length), w.cell? ⟨g, j, none⟩ = some (.string (mkB l[j]))) : SlS t w (.slice (some ⟨g, 0, none⟩) l.length cap) l :=
  ⟨by simp, .inr ⟨g, 0, cap, c, fr, rfl, hl, hb, by omega, fun j hj => by
    simp only [List.length_map] at hj
    have := h j hj
    rw [cell_of_blk hb] at this
    rw [Nat.zero_add, this]; simp [hj]⟩⟩

/-- Names, each less than the next. -/
def rising (l : List Str) : Prop := l.Pairwise fun a b => Key.lt a b = true
/-- How many stand ahead of x. -/
def rank (x : Str) (l : List Str) : Nat := (l.takeWhile fun y => Key.lt y x).length
theorem rank_le (x : Str) (l : List Str) : rank x l ≤ l.length := (List.takeWhile_prefix _).length_le
theorem take_rank (x : Str) (l : List Str) : l.take (rank x l) = l.takeWhile fun y => Key.lt y x := (List.prefix_iff_eq_take.1 (List.takeWhile_prefix _)).symm
theorem drop_rank (x : Str) (l : List Str) : l.drop (rank x l) = l.dropWhile fun y => Key.lt y x := by
  have h1 := List.take_append_drop (rank x l) l
  rw [take_rank] at h1
  exact List.append_cancel_left (h1.trans (List.takeWhile_append_dropWhile (p := fun y => Key.lt y x) (l := l)).symm)
theorem lt_asymm {a b : Str} (h : Key.lt a b = true) : Key.lt b a = false := by
  cases h' : Key.lt b a with
  | false => rfl
  | true => have := Key.trans a b a h h'; rw [Key.irrefl] at this; cases this
theorem rank_lo (x : Str) (l : List Str) (t : Nat) (ht : t < rank x l) (hl : t < l.length) : Key.lt l[t] x = true := by
  have h1 : l[t] ∈ l.take (rank x l) := List.mem_take_iff_getElem.2 ⟨t, by omega, rfl⟩
  rw [take_rank] at h1
  exact List.all_eq_true.1 (List.all_takeWhile (l := l) (p := fun y => Key.lt y x)) _ h1
theorem rank_hi {l : List Str} (h : rising l) (x : Str) (t : Nat) (ht : rank x l ≤ t) (hl : t < l.length) : Key.lt l[t] x = false := by
  induction l generalizing t with
  | nil => simp at hl
  | cons a r ih =>
    obtain ⟨h1, h2⟩ := List.pairwise_cons.1 h
    by_cases ha : Key.lt a x = true
    · have e : rank x (a :: r) = rank x r + 1 := by simp [rank, ha]
      cases t with
      | zero => omega
      | succ t => simp only [List.getElem_cons_succ]; exact ih h2 t (by omega) (by simpa using hl)
    · cases t with
      | zero => simpa using ha
      | succ t =>
        simp only [List.getElem_cons_succ]
        cases hc : Key.lt (r[t]'(by simpa using hl)) x with
        | false => rfl
        | true => exact absurd (Key.trans _ _ _ (h1 _ (List.getElem_mem _)) hc) ha
theorem mem_rank {l : List Str} (h : rising l) (x : Str) : x ∈ l ↔ ∃ hl : rank x l < l.length, l[rank x l] = x := by
  constructor
  · intro hm
    obtain ⟨t, ht, rfl⟩ := List.getElem_of_mem hm
    have h1 : rank l[t] l ≤ t := by
      rcases Nat.lt_or_ge t (rank l[t] l) with h' | h'
      · have := rank_lo l[t] l t h' ht; rw [Key.irrefl] at this; cases this
      · exact h'
    have h2 : t ≤ rank l[t] l := by
      rcases Nat.lt_or_ge (rank l[t] l) t with h' | h'
      · have := List.pairwise_iff_getElem.1 h (rank l[t] l) t (by omega) ht h'
        have h3 := rank_hi h l[t] (rank l[t] l) (Nat.le_refl _) (by omega)
        rw [this] at h3; cases h3
      · exact h'
    have e : rank l[t] l = t := by omega
    exact ⟨by omega, by simp only [e]⟩
  · rintro ⟨hl, e⟩; rw [← e]; exact List.getElem_mem _

end Go.Av
namespace Go.Proofs.YtmigbgfgnhkmnaaGreatDoor
open Go.RowKit Go.Av

/-- A slice of strings in new memory, that reads as l. -/
def OwnS (B : Nat) (w : World) (l : List Str) (e : Ending) (w' : World) : Prop := ∃ v', e = .returned v' ∧ w'.ownsRow B 9 1 v' l.length (strV l) ∧ Pu w w'

theorem clone_any (l : List Str) (v : Value) (w : World) (h : SlS 9 w v l) (hl : l.length ≤ 1000000) :
    Calls Tryz.prog 126 #[v] w (OwnS w.heap.size w l) := by
  by_cases h0 : 0 < l.length
  · obtain ⟨b, off, cap, rfl, h2, h3, h4⟩ := h.pos h0
    refine (Tryz.slices_Clone_string b off l.length cap (l.map mkB) w (by simp) (by omega) (fun j hj => by
      have hj' : j < l.length := by simpa using hj
      rw [h4 j hj']; simp [hj'])).mono ?_
    rintro e w' ⟨v', rfl, h5, _, h6⟩
    refine ⟨v', rfl, ?_, h6⟩
    have e1 : ((l.map mkB).take l.length).map Value.string = strV l := by
      rw [List.take_of_length_le (by simp), List.map_map]; rfl
    rwa [e1] at h5
  · obtain rfl : l = [] := List.length_eq_zero_iff.1 (by omega)
    obtain ⟨a, cap, rfl, hn⟩ := h.zero
    cases a with
    | none =>
      refine (Tryz.slices_Clone_string_nil 0 cap w).mono ?_
      rintro e w' ⟨rfl, rfl⟩
      exact ⟨_, rfl, ⟨rfl, .inl ⟨rfl, rfl⟩⟩, Below.refl _ _⟩
    | some a =>
      refine (Tryz.slices_Clone_string_zero a cap w).mono ?_
      rintro e w' ⟨v', rfl, h5, _, h6⟩
      exact ⟨v', rfl, h5, h6⟩

theorem bs_any (l : List Str) (x : Str) (v : Value) (w : World) (h : SlS 9 w v l) (hs : rising l) (hl : l.length ≤ 1000000) :
    Calls Tryz.prog 163 #[v, .string (mkB x)] w fun e w' => e = .returned (.tuple #[.int .i64 (rank x l : Nat), .bool (decide (x ∈ l))]) ∧ Pu w w' := by
  by_cases h0 : 0 < l.length
  · obtain ⟨b, off, cap, rfl, h2, h3, h4⟩ := h.pos h0
    have c := Any2.slices_BinarySearch_string Tryz.laysBs b off l.length cap (fun t => mkB (l.getD t x)) (mkB x) w (by omega) (fun j hj => by
      rw [h4 j hj]; simp [hj])
    have e1 : Lib.bsGo (fun t => Op.bytesLess (mkB (l.getD t x)).toList (mkB x).toList) l.length 0 l.length = rank x l := by
      refine Lib.bsGo_spec _ _ (fun t ht => ?_) (fun t ht => ?_) _ _ _ (by omega) (Nat.zero_le _) (rank_le x l)
      · have hl := rank_le x l
        simp only [mkB_toList, bytesLess_before]
        rw [List.getD_eq_getElem?_getD, List.getElem?_eq_getElem (by omega)]
        exact rank_lo x l t ht (by omega)
      · simp only [mkB_toList, bytesLess_before]
        rcases Nat.lt_or_ge t l.length with h' | h'
        · rw [List.getD_eq_getElem?_getD, List.getElem?_eq_getElem h']
          exact rank_hi hs x t ht h'
        · rw [List.getD_eq_getElem?_getD, List.getElem?_eq_none h']
          exact Key.irrefl x
    rw [e1] at c
    refine c.mono ?_
    rintro e w' ⟨rfl, q, rfl⟩
    refine ⟨?_, pu_drewN w q⟩
    have e2 : (rank x l < l.length ∧ mkB (l.getD (rank x l) x) = mkB x) ↔ x ∈ l := by
      rw [mem_rank hs x]
      constructor
      · rintro ⟨a, b⟩; refine ⟨a, ?_⟩; simpa [a] using b
      · rintro ⟨a, b⟩; refine ⟨a, ?_⟩; simpa [a] using b
    simp only [e2]

  · obtain rfl : l = [] := List.length_eq_zero_iff.1 (by omega)
    obtain ⟨a, cap, rfl, _⟩ := h.zero
    refine (Any2.slices_BinarySearch_string_empty Tryz.laysBs a cap (mkB x) w).mono ?_
    rintro e w' ⟨rfl, rfl⟩
    exact ⟨by simp [rank], Below.refl _ _⟩


/-- The slice reads as l now; below B nothing has changed. -/
def BelowS (B : Nat) (w : World) (l : List Str) (e : Ending) (w' : World) : Prop := ∃ v', e = .returned v' ∧ SlS 9 w' v' l ∧ Below B w w'

theorem strV_get (l : List Str) (j : Nat) : (strV l)[j]? = (l[j]?).map fun s => Value.string (mkB s) := by simp [strV]
theorem strV_one (l : List Str) : ∀ v ∈ strV l, v.oneCell' = true := by
  intro v hv; obtain ⟨s, _, rfl⟩ := List.mem_map.1 hv; rfl

theorem ins_get (l : List Str) (i : Nat) (x : Str) (hi : i ≤ l.length) (j : Nat) (hj : j < (l.take i ++ x :: l.drop i).length) :
    (l.take i ++ x :: l.drop i)[j] = if h : j < i then l[j]'(by omega) else if h2 : j = i then x else l[j - 1]'(by simp at hj; omega) := by
  have hj' : j < l.length + 1 := by simp at hj; omega
  have key : (l.take i ++ x :: l.drop i)[j]? = some (if h : j < i then l[j]'(by omega) else if h2 : j = i then x else l[j - 1]'(by omega)) := by
    by_cases h : j < i
    · rw [dif_pos h, List.getElem?_append_left (by simp; omega), List.getElem?_take, if_pos h, List.getElem?_eq_getElem]
    · rw [dif_neg h, List.getElem?_append_right (by simp; omega), List.length_take, Nat.min_eq_left hi]
      by_cases h2 : j = i
      · rw [dif_pos h2, h2, Nat.sub_self]; rfl
      · rw [dif_neg h2]
        obtain ⟨k, rfl⟩ : ∃ k, j = i + 1 + k := ⟨j - (i + 1), by omega⟩
        rw [show i + 1 + k - i = k + 1 by omega, List.getElem?_cons_succ, List.getElem?_drop, List.getElem?_eq_getElem (by omega)]
        congr 2; omega
  rw [List.getElem?_eq_getElem hj] at key
  exact Option.some.inj key
theorem grownCap_ge (w : World) (need old : Nat) (e : TypeId) : need ≤ grownCap w need old e := by
  unfold grownCap; exact Nat.le_add_right _ _
theorem zeroCells_str (n : Nat) : (Builtin.zeroCells (Value.string ⟨#[]⟩).cells n).size = n := by simp [Builtin.zeroCells, Value.cells]

set_option maxHeartbeats 1000000 in
theorem insert_any (l : List Str) (i : Nat) (x : Str) (v : Value) (B vb : Nat) (w : World) (hi : i ≤ l.length) (hl : l.length ≤ 1000000) (hown : w.ownsRow B 9 1 v l.length (strV l)) (hB : B ≤ w.heap.size)
    (hvb : w.heap[vb]? = some (.cells #[.string (mkB x)] 9 (0, 0))) (hne : v.ownBlock ≠ some vb) :
    Calls Tryz.prog 208 #[v, .int .i64 i, .slice (some ⟨vb, 0, none⟩) 1 1] w (BelowS B w (l.take i ++ x :: l.drop i)) := by
  have hlen : (l.take i ++ x :: l.drop i).length = l.length + 1 := by simp; omega
  have hvs : ∀ j u, [Value.string (mkB x)][j]? = some u → w.cell? ⟨vb, 0 + j, none⟩ = some u := by
    intro j u hu
    match j, hu with
    | 0, hu => simp at hu; subst hu; rw [cell_of_blk hvb]; rfl
  have hget := ins_get l i x hi
  have hT : Tryz.laysIns_ren.t 9 = 9 := rfl
  rcases hown with ⟨h1, ⟨rfl, hn⟩ | ⟨g, cap, cur, rfl, hBg, hg, hnc, hcm, hcs, htk⟩⟩
  · obtain rfl : l = [] := List.length_eq_zero_iff.1 hn
    obtain rfl : i = 0 := by simpa using hi
    have c := Any2.slices_Insert_string_end_grow Tryz.laysIns none 0 0 vb 0 1 1 [] [.string (mkB x)] w (by omega) (by omega) (by omega) (by omega) rfl rfl (fun _ => rfl) (fun a ha => by cases ha) hvs (by simp [Value.oneCell'])
    simp only [hT] at c
    refine c.mono ?_
    rintro e w' ⟨rfl, rfl⟩
    refine ⟨_, rfl, ?_, ((Below.refl B w).drew).alloc hB _⟩
    have hnew := heap_alloc_new w.drew (.cells (([] ++ [Value.string (mkB x)]).toArray ++ Builtin.zeroCells (Value.string ⟨#[]⟩).cells (grownCap w (0 + 1) 0 9 - (0 + 1))) 9)
    refine SlS.of_cells (l := [x]) hnew ?_ ?_ ?_
    · have := grownCap_ge w (0 + 1) 0 9
      simp only [Array.size_append, zeroCells_str]; simp; omega
    · exact grownCap_ge w (0 + 1) 0 9
    · intro j hj
      simp only [List.length_cons, List.length_nil] at hj
      obtain rfl : j = 0 := by omega
      refine (cell_of_blk hnew).trans ?_
      rw [Array.getElem?_append_left (by simp)]; rfl
  · have hgb : g ≠ vb := fun e => hne (by simp [Value.ownBlock, e])
    have hcell : ∀ j (hj : j < l.length), w.cell? ⟨g, j, none⟩ = some (.string (mkB l[j])) := by
      intro j hj
      rw [cell_of_blk hg]
      have h5 : (cur.toList.take (l.length * 1))[j]? = (strV l)[j]? := by rw [htk]
      rw [List.getElem?_take, if_pos (by omega), strV_get, List.getElem?_eq_getElem hj] at h5
      simpa using h5
    have hcells : ∀ j u, (strV l)[j]? = some u → w.cell? ⟨g, 0 + j, none⟩ = some u := by
      intro j u hu
      rw [strV_get] at hu
      obtain ⟨s, hs, rfl⟩ := Option.map_eq_some_iff.1 hu
      obtain ⟨hj, rfl⟩ := List.getElem?_eq_some_iff.1 hs
      rw [Nat.zero_add]; exact hcell j hj
    have hsome : ∀ j, j < cap → (w.cell? ⟨g, j, none⟩).isSome = true := by
      intro j hj; rw [cell_of_blk hg]; simp; omega
    have hfz : ∀ j, w.frozen? ⟨g, j, none⟩ = false := fun j => frozen_of_blk hg
    have hglt := lt_of_blk hg
    by_cases hroom : l.length + 1 ≤ cap
    · by_cases hin : i < l.length
      · refine (Any2.slices_Insert_string_shift Tryz.laysIns g 0 l.length cap i vb 0 1 1 (strV l) [.string (mkB x)] w hin (by omega) hroom (by unfold maxLen at hcm; omega) (fun e => hgb e.symm) (by simp [strV]) rfl hcells (fun j hj => by rw [Nat.zero_add]; exact hsome j (by omega)) (fun j _ => by rw [Nat.zero_add]; exact hfz j) hvs (strV_one l) (by simp [Value.oneCell'])
          9 9 1 cur.size (by simp [World.shape?, hvb]) (by simp [World.shape?, hg]) (by omega) (frozen_of_blk hvb) (frozen_of_blk hvb)).mono ?_
        rintro e w' ⟨rfl, rfl⟩
        obtain ⟨c1, e1, e2⟩ := setCells_blk g ((strV l).drop i) (0 + (i + 1)) w.drew cur _ _ hg
        obtain ⟨c2, e3, e4⟩ := setCells_blk g [.string (mkB x)] (0 + i) _ c1 _ _ e1
        refine ⟨_, rfl, ?_, ((Below.refl B w).drew.trans (setCells_below hBg _ _ _)).trans (setCells_below hBg _ _ _)⟩
        rw [← hlen]
        refine SlS.of_cells e3 (by omega) (by omega) fun j hj => ?_
        rw [hget j hj]
        by_cases hji : j = i
        · subst hji
          rw [dif_neg (by omega), dif_pos rfl]
          have := World.cell?_setCells_in g [.string (mkB x)] (0 + j) (w.drew.setCells g (0 + (j + 1)) ((strV l).drop j)) (fun k hk => by
            simp only [List.length_cons, List.length_nil] at hk
            rw [cell_of_blk e1]; simp; omega) 0 (by simp)
          simpa using this
        · rw [World.cell?_setCells_out g _ _ _ _ (fun _ _ => by simp; omega)]
          by_cases hlt : j < i
          · rw [dif_pos hlt, World.cell?_setCells_out g _ _ _ _ (fun _ _ => by simp; omega)]
            exact hcell j (by omega)
          · rw [dif_neg hlt, dif_neg hji]
            have := World.cell?_setCells_in g ((strV l).drop i) (0 + (i + 1)) w.drew (fun k hk => by
              simp only [List.length_drop, strV, List.length_map] at hk
              exact hsome _ (by omega)) (j - (i + 1)) (by simp only [List.length_drop, strV, List.length_map]; omega)
            rw [show 0 + (i + 1) + (j - (i + 1)) = j by omega] at this
            rw [this]
            simp only [strV, List.getElem_drop, List.getElem_map]
            congr 3; congr 1; omega
      · obtain rfl : i = l.length := by omega
        refine (Any2.slices_Insert_string_end_room Tryz.laysIns g 0 l.length cap vb 0 1 1 [.string (mkB x)] w (by omega) hroom (by unfold maxLen at hcm; omega) rfl (fun j hj => hsome _ (by omega)) (fun j _ => hfz _) hvs (by simp [Value.oneCell'])).mono ?_
        rintro e w' ⟨rfl, rfl⟩
        obtain ⟨c1, e1, e2⟩ := setCells_blk g [.string (mkB x)] (0 + l.length) w cur _ _ hg
        refine ⟨_, rfl, ?_, setCells_below hBg _ _ _⟩
        rw [← hlen]
        refine SlS.of_cells e1 (by omega) (by omega) fun j hj => ?_
        rw [hget j hj]
        by_cases hji : j = l.length
        · subst hji
          rw [dif_neg (by omega), dif_pos rfl]
          have := World.cell?_setCells_in g [.string (mkB x)] (0 + l.length) w (fun k hk => by
            simp only [List.length_cons, List.length_nil] at hk
            exact hsome _ (by omega)) 0 (by simp)
          simpa using this
        · rw [World.cell?_setCells_out g _ _ _ _ (fun _ _ => by simp; omega), dif_pos (by omega)]
          exact hcell j (by omega)
    · have hgc := grownCap_ge w (l.length + 1) cap 9
      by_cases hin : i < l.length
      · have c := Any2.slices_Insert_string_grow Tryz.laysIns g 0 l.length cap i vb 0 1 1 (strV l) [.string (mkB x)] w hin (by omega) hnc (by omega) (by omega) (by simp [strV]) rfl hcells hvs (strV_one l) (by simp [Value.oneCell'])
        simp only [hT] at c
        refine c.mono ?_
        rintro e w' ⟨rfl, rfl⟩
        obtain ⟨C, hC⟩ : ∃ C, C = grownCap w (l.length + 1) cap 9 := ⟨_, rfl⟩
        rw [← hC] at hgc ⊢
        clear hC c
        have hnew := heap_alloc_new w (.cells (((strV l).take i).toArray ++ Builtin.zeroCells (Value.string ⟨#[]⟩).cells (l.length + 1 - i) ++ Builtin.zeroCells (Value.string ⟨#[]⟩).cells (C - (l.length + 1))) 9)
        have hsz : (((strV l).take i).toArray ++ Builtin.zeroCells (Value.string ⟨#[]⟩).cells (l.length + 1 - i) ++ Builtin.zeroCells (Value.string ⟨#[]⟩).cells (C - (l.length + 1))).size = C := by
          simp only [Array.size_append, zeroCells_str]; simp [strV]; omega
        have hhd : ∀ j (hj : j < i), (((strV l).take i).toArray ++ Builtin.zeroCells (Value.string ⟨#[]⟩).cells (l.length + 1 - i) ++ Builtin.zeroCells (Value.string ⟨#[]⟩).cells (C - (l.length + 1)))[j]? = some (.string (mkB (l[j]'(by omega)))) := by
          intro j hj
          rw [Array.append_assoc, Array.getElem?_append_left (by simp [strV]; omega)]
          simp [strV, hj]
        generalize (((strV l).take i).toArray ++ Builtin.zeroCells (Value.string ⟨#[]⟩).cells (l.length + 1 - i) ++ Builtin.zeroCells (Value.string ⟨#[]⟩).cells (C - (l.length + 1))) = A at hnew hsz hhd ⊢
        obtain ⟨c1, e1, e2⟩ := setCells_blk w.heap.size [.string (mkB x)] i (w.alloc (.cells A 9)).drew A _ _ hnew
        obtain ⟨c2, e3, e4⟩ := setCells_blk w.heap.size ((strV l).drop i) (i + 1) ((w.alloc (.cells A 9)).drew.setCells w.heap.size i [.string (mkB x)]).drew c1 _ _ e1
        refine ⟨_, rfl, ?_, (((((Below.refl B w).alloc hB _).drew).trans (setCells_below hB _ _ _)).drew).trans (setCells_below hB _ _ _)⟩
        rw [← hlen]
        refine SlS.of_cells e3 (by omega) (by omega) fun j hj => ?_
        rw [hget j hj]
        by_cases hji : i < j
        · rw [dif_neg (by omega), dif_neg (by omega)]
          have := World.cell?_setCells_in w.heap.size ((strV l).drop i) (i + 1) ((w.alloc (.cells A 9)).drew.setCells w.heap.size i [.string (mkB x)]).drew (fun k hk => by
            simp only [List.length_drop, strV, List.length_map] at hk
            rw [World.cell?_drew, cell_of_blk e1]; simp; omega) (j - (i + 1)) (by simp only [List.length_drop, strV, List.length_map]; omega)
          rw [show i + 1 + (j - (i + 1)) = j by omega] at this
          rw [this]
          simp only [strV, List.getElem_drop, List.getElem_map]
          congr 3; congr 1; omega
        · rw [World.cell?_setCells_out w.heap.size _ _ _ _ (fun _ _ => by simp; omega), World.cell?_drew]
          by_cases hjj : j = i
          · subst hjj
            rw [dif_neg (by omega), dif_pos rfl]
            have := World.cell?_setCells_in w.heap.size [.string (mkB x)] j (w.alloc (.cells A 9)).drew (fun k hk => by
              simp only [List.length_cons, List.length_nil] at hk
              rw [World.cell?_drew, cell_of_blk hnew]; simp; omega) 0 (by simp)
            simpa using this
          · rw [dif_pos (by omega), World.cell?_setCells_out w.heap.size _ _ _ _ (fun _ _ => by simp; omega), World.cell?_drew, cell_of_blk hnew]
            exact hhd j (by omega)
      · obtain rfl : i = l.length := by omega
        have c := Any2.slices_Insert_string_end_grow Tryz.laysIns (some ⟨g, 0, none⟩) l.length cap vb 0 1 1 (strV l) [.string (mkB x)] w (by omega) hnc (by omega) (by omega) (by simp [strV]) rfl (fun h => by cases h) (fun a ha j u hu => by
          cases ha; have h6 := hcells j u hu; rw [Nat.zero_add] at h6; unfold Addr.add; split
          · subst_vars; exact h6
          · simpa using h6) hvs (by simp [Value.oneCell'])
        simp only [hT] at c
        refine c.mono ?_
        rintro e w' ⟨rfl, rfl⟩
        obtain ⟨C, hC⟩ : ∃ C, C = grownCap w (l.length + 1) cap 9 := ⟨_, rfl⟩
        rw [← hC] at hgc ⊢
        clear hC c
        have hnew := heap_alloc_new w.drew (.cells ((strV l ++ [Value.string (mkB x)]).toArray ++ Builtin.zeroCells (Value.string ⟨#[]⟩).cells (C - (l.length + 1))) 9)
        obtain ⟨A, hA⟩ : ∃ A, A = (strV l ++ [Value.string (mkB x)]).toArray ++ Builtin.zeroCells (Value.string ⟨#[]⟩).cells (C - (l.length + 1)) := ⟨_, rfl⟩
        rw [← hA] at hnew ⊢
        refine ⟨_, rfl, ?_, ((Below.refl B w).drew).alloc hB _⟩
        rw [← hlen]
        refine SlS.of_cells hnew ?_ (by omega) fun j hj => ?_
        · rw [hA]; simp only [Array.size_append, zeroCells_str]; simp [strV]; omega
        · rw [hget j hj]
          refine (cell_of_blk hnew).trans ?_
          rw [hA]
          rw [Array.getElem?_append_left (by simp [strV]; omega)]
          by_cases hjj : j = l.length
          · subst hjj
            rw [dif_neg (by omega), dif_pos rfl]; simp [strV]
          · have hj2 : j < l.length := by omega
            rw [dif_pos hj2]
            show (strV l ++ [Value.string (mkB x)]).toArray[j]? = _
            rw [List.getElem?_toArray, List.getElem?_append_left (by simpa [strV] using hj2)]
            simp [strV, hj2]


theorem delete_any (l : List Str) (i : Nat) (v : Value) (B : Nat) (w : World) (hi : i < l.length) (hl : l.length ≤ 1000000) (hown : w.ownsRow B 9 1 v l.length (strV l)) :
    Calls Tryz.prog 164 #[v, .int .i64 i, .int .i64 (i + 1 : Nat)] w (BelowS B w (l.take i ++ l.drop (i + 1))) := by
  have hlen : (l.take i ++ l.drop (i + 1)).length = l.length - 1 := by simp; omega
  rcases hown with ⟨h1, ⟨rfl, hn⟩ | ⟨g, cap, cur, rfl, hBg, hg, hnc, hcm, hcs, htk⟩⟩
  · omega
  · have hcell : ∀ j (hj : j < l.length), w.cell? ⟨g, j, none⟩ = some (.string (mkB l[j])) := by
      intro j hj
      rw [cell_of_blk hg]
      have h5 : (cur.toList.take (l.length * 1))[j]? = (strV l)[j]? := by rw [htk]
      rw [List.getElem?_take, if_pos (by omega), strV_get, List.getElem?_eq_getElem hj] at h5
      simpa using h5
    refine (Tryz.slices_Delete_string_cells g 0 l.length cap i (i + 1) (fun j => mkB (l.getD j [])) w hnc (by unfold maxLen at hcm; omega) (by omega) (by omega) (fun j hj => by
      rw [Nat.zero_add, hcell j hj]; simp [hj]) (fun j _ => frozen_of_blk hg)).mono ?_
    have e0 : Lib.strsOf (fun j => mkB (l.getD j [])) l.length = l := by
      apply List.ext_getElem
      · simp [Lib.strsOf]
      · intro j h1 h2; simp [Lib.strsOf, h2]
    rw [e0]
    rintro e w' ⟨rfl, q, rfl⟩
    obtain ⟨c1, e1, e2⟩ := setCells_blk g ((l.take i ++ l.drop (i + 1) ++ List.replicate (i + 1 - i) []).map encStr) 0 (w.drewN q) cur _ _ hg
    refine ⟨_, rfl, ?_, (below_drewN (Below.refl B w) q).trans (setCells_below hBg _ _ _)⟩
    have e3 : l.length - (i + 1 - i) = (l.take i ++ l.drop (i + 1)).length := by omega
    rw [e3]
    refine SlS.of_cells e1 (by omega) (by omega) fun j hj => ?_
    have := World.cell?_setCells_in g ((l.take i ++ l.drop (i + 1) ++ List.replicate (i + 1 - i) []).map encStr) 0 (w.drewN q) (fun k hk => by
      simp at hk
      show (w.cell? ⟨g, 0 + k, none⟩).isSome = true
      rw [cell_of_blk hg]; simp; omega) j (by simp at hj ⊢; omega)
    rw [Nat.zero_add] at this
    rw [this, List.getElem_map, List.getElem_append_left hj]
    rfl

end Go.Proofs.YtmigbgfgnhkmnaaGreatDoor

/- Chapter 10's nodes, as plain data. -/
namespace Go.Av

structure StatD where
  made : Int
  changed : Int
  version : Int
  kids : Int
  owner : Int
  length : Int
  count : Int
  deriving DecidableEq, Inhabited

structure NodeD where
  stat : StatD
  data : Str
  next : Int
  names : List Str
  deriving DecidableEq, Inhabited

def StatD.zero : StatD := ⟨0, 0, 0, 0, 0, 0, 0⟩
def more (n : Int) : Int := if 2147483647 ≤ n then n else n + 1
def newN (zxid owner : Int) (data : Str) : NodeD := ⟨⟨zxid, zxid, 0, 0, owner, data.length, 0⟩, data, 0, []⟩
def writeN (n : NodeD) (zxid : Int) (data : Str) : NodeD := { n with stat := { n.stat with changed := zxid, version := more n.stat.version, length := data.length }, data := data }
def insS (x : Str) (l : List Str) : List Str := l.take (rank x l) ++ x :: l.drop (rank x l)
def delS (x : Str) (l : List Str) : List Str := l.take (rank x l) ++ l.drop (rank x l + 1)
def addN (n : NodeD) (x : Str) : NodeD :=
  if x ∈ n.names then n else { n with stat := { n.stat with count := (insS x n.names).length, kids := more n.stat.kids }, next := more n.next, names := insS x n.names }
def removeN (n : NodeD) (x : Str) : NodeD :=
  if x ∈ n.names then { n with stat := { n.stat with count := (delS x n.names).length, kids := more n.stat.kids }, names := delS x n.names } else n

/-- A node's cells; nv: the slice of its names. -/
def NodeD.cells (n : NodeD) (nv : Value) : List Value :=
  [.int .i64 n.stat.made, .int .i64 n.stat.changed, .int .i64 n.stat.version, .int .i64 n.stat.kids, .int .i64 n.stat.owner, .int .i64 n.stat.length, .int .i64 n.stat.count, .string (mkB n.data), .int .i64 n.next, nv]

/-- The cells of no node. -/
def StatD.cells0 (_ : StatD) : List Value := NodeD.cells ⟨StatD.zero, [], 0, []⟩ (.slice none 0 0)
attribute [go_sem] NodeD.cells

/-- What is right of every node that the program makes. -/
structure NodeOk (n : NodeD) : Prop where
  rise : rising n.names
  many : n.names.length ≤ 100000
  v0 : 0 ≤ n.stat.version
  v1 : n.stat.version ≤ 2147483647
  k0 : 0 ≤ n.stat.kids
  k1 : n.stat.kids ≤ 2147483647
  n0 : 0 ≤ n.next
  n1 : n.next ≤ 2147483647

end Go.Av

/- Chapter 6's replies, as plain data. -/
namespace Go.Av

structure ResD where
  err : Int
  path : Str
  data : Str
  names : List Str
  stat : StatD
  deriving DecidableEq, Inhabited

structure ReplyD where
  num : Int
  zxid : Int
  err : Int
  place : Int
  results : List ResD
  deriving DecidableEq, Inhabited

def failRes (e : Int) : ResD := ⟨e, [], [], [], StatD.zero⟩
def failAll (e place : Int) (n : Nat) : List ResD := (List.range n).map fun (i : Nat) => failRes (if (i : Int) = place then e else 14)
def failRep (num e place : Int) (n : Nat) : ReplyD := ⟨num, 0, e, place, if 16 < n then [] else failAll e place n⟩

/-- A result's cells; nv: the slice of its names. -/
def ResD.cells (r : ResD) (nv : Value) : List Value :=
  [.int .i64 r.err, .string (mkB r.path), .string (mkB r.data), nv, .int .i64 r.stat.made, .int .i64 r.stat.changed, .int .i64 r.stat.version, .int .i64 r.stat.kids, .int .i64 r.stat.owner, .int .i64 r.stat.length, .int .i64 r.stat.count]
attribute [go_sem] ResD.cells
def rcells (zs : List (ResD × Value)) : List Value := zs.flatMap fun z => z.1.cells z.2
theorem rcells_len (zs : List (ResD × Value)) : (rcells zs).length = zs.length * 11 := by
  induction zs with
  | nil => rfl
  | cons a r ih => simp [rcells, ResD.cells] at ih ⊢; omega
theorem rcells_append (a b : List (ResD × Value)) : rcells (a ++ b) = rcells a ++ rcells b := by simp [rcells]
theorem rcells_get (l : List (ResD × Value)) (j : Nat) (hj : j < l.length) (i : Nat) (hi : i < 11) : (rcells l)[j * 11 + i]? = (l[j].1.cells l[j].2)[i]? := by
  induction l generalizing j with
  | nil => simp at hj
  | cons a r ih =>
    have hlen : (a.1.cells a.2).length = 11 := rfl
    cases j with
    | zero =>
      show ((a.1.cells a.2) ++ rcells r)[0 * 11 + i]? = _
      rw [List.getElem?_append_left (by omega)]; simp
    | succ j =>
      show ((a.1.cells a.2) ++ rcells r)[(j + 1) * 11 + i]? = _
      rw [List.getElem?_append_right (by omega), hlen, show (j + 1) * 11 + i - 11 = j * 11 + i by omega]
      simpa using ih j (by simpa using hj)

/-- The slice v reads as these results. -/
def SlR (t ts : TypeId) (w : World) (v : Value) (l : List ResD) : Prop :=
  ∃ zs : List (ResD × Value), zs.map (·.1) = l ∧ Sl t 11 w v zs.length (rcells zs) ∧ ∀ z ∈ zs, SlS ts w z.2 z.1.names

theorem SlR.nil (t ts : TypeId) (w : World) : SlR t ts w (.slice none 0 0) [] := ⟨[], rfl, Sl.nil t 11 w, fun _ h => nomatch h⟩
theorem SlR.pu {t ts : TypeId} {w w' : World} {v : Value} {l : List ResD} (h : SlR t ts w v l) (hp : Pu w w') : SlR t ts w' v l := by
  obtain ⟨zs, h1, h2, h3⟩ := h
  exact ⟨zs, h1, h2.pu hp, fun z hz => (h3 z hz).pu hp⟩
theorem SlR.keep {t ts : TypeId} {w w' : World} {v : Value} {l : List ResD} (h : SlR t ts w v l) (hk : ∀ (b : Nat) (c : Array Value) (e : TypeId) (fr : Nat × Nat), w.heap[b]? = some (Obj.cells c e fr) → e = t ∨ e = ts → w'.heap[b]? = w.heap[b]?) : SlR t ts w' v l := by
  obtain ⟨zs, h1, h2, h3⟩ := h
  exact ⟨zs, h1, h2.keep fun b c fr hb => hk b c t fr hb (.inl rfl), fun z hz => Sl.keep (h3 z hz) fun b c fr hb => hk b c ts fr hb (.inr rfl)⟩
theorem SlR.len {t ts : TypeId} {w : World} {v : Value} {l : List ResD} (h : SlR t ts w v l) : ∃ a cap, v = .slice a l.length cap := by
  obtain ⟨zs, h1, h2, _⟩ := h
  obtain ⟨a, cap, h3, _⟩ := h2.form
  exact ⟨a, cap, by rw [h3, ← h1]; simp⟩

/-- What owns its cells reads as them. -/
theorem Sl.of_own {w : World} {B : Nat} {t : TypeId} {sz n : Nat} {v : Value} {xs : List Value} (h : w.ownsRow B t sz v n xs) : Sl t sz w v n xs := by
  rcases h with ⟨h1, ⟨rfl, hn⟩ | ⟨g, cap, cur, rfl, hBg, hg, hnc, hcm, hcs, htk⟩⟩
  · exact ⟨h1, .inl ⟨rfl, hn⟩⟩
  · refine ⟨h1, .inr ⟨g, 0, cap, cur, (0, 0), rfl, hnc, hg, by omega, fun j hj => ?_⟩⟩
    have : (cur.toList.take (n * sz))[j]? = xs[j]? := by rw [htk]
    rw [List.getElem?_take, if_pos (by omega)] at this
    simpa using this

end Go.Av

/- Chapter 11's tree, as plain data. -/
namespace Go.Av

structure TreeD where
  room : Int
  nodes : List (Str × NodeD)
  deriving DecidableEq

def TreeD.get (T : TreeD) (p : Str) : Option NodeD := aget p T.nodes
def onParent (T : TreeD) (p : Str) (f : NodeD → Str → NodeD) : TreeD :=
  match parent p with
  | none => T
  | some up => match aget up T.nodes with
    | none => T
    | some m => { T with nodes := aput up (f m (nameOf p)) T.nodes }
def layT (T : TreeD) (p : Str) (n : NodeD) : TreeD := onParent { T with nodes := aput p n T.nodes } p addN
def removeT (T : TreeD) (p : Str) : TreeD := onParent { T with nodes := adel p T.nodes } p removeN

def placeEnd (T : TreeD) (p : Str) : Str × Int :=
  if (aget p T.nodes).isSome then ([], 5) else if T.room ≤ T.nodes.length then ([], 9) else (p, 0)
def placeT (T : TreeD) (o : OpD) : Str × Int :=
  match parent o.path with
  | none => placeEnd T o.path
  | some up => match aget up T.nodes with
    | none => ([], 4)
    | some n => if n.stat.owner != 0 then ([], 8) else if seqB o.flags then
        match number o.path n.next with
        | none => ([], 1)
        | some q => placeEnd T q
      else placeEnd T o.path
def createT (T : TreeD) (o : OpD) (sess zxid : Int) (only : Bool) : TreeD × ResD :=
  let a := placeT T o
  if a.2 = 0 then
    let n := newN zxid (if ephB o.flags then sess else 0) o.data
    (if only then T else layT T a.1 n, ⟨0, a.1, [], [], n.stat⟩)
  else (T, failRes a.2)
def wrongV (o : OpD) (n : NodeD) : Bool := o.version != -1 && o.version != n.stat.version
def changeT (T : TreeD) (o : OpD) (zxid : Int) (only : Bool) : TreeD × ResD :=
  match aget o.path T.nodes with
  | none => (T, failRes 4)
  | some n =>
    if wrongV o n then (T, failRes 6)
    else if o.kind = 2 ∧ 0 < n.names.length then (T, failRes 7)
    else if o.kind = 2 then (if only then T else removeT T o.path, ⟨0, o.path, [], [], StatD.zero⟩)
    else if o.kind = 3 then (if only then T else { T with nodes := aput o.path (writeN n zxid o.data) T.nodes }, ⟨0, o.path, [], [], (writeN n zxid o.data).stat⟩)
    else (T, ⟨0, o.path, [], [], StatD.zero⟩)
def readT (T : TreeD) (o : OpD) : ResD :=
  match aget o.path T.nodes with
  | none => failRes 4
  | some n => ⟨0, o.path, if o.kind = 5 then n.data else [], if o.kind = 7 then n.names else [], n.stat⟩
def doT (T : TreeD) (o : OpD) (sess zxid : Int) (only : Bool) : TreeD × ResD :=
  if opGood o ≠ 0 then (T, failRes (opGood o))
  else if sess < 1 ∨ zxid < 0 then (T, failRes 1)
  else if o.kind = 1 then createT T o sess zxid only
  else if o.kind = 2 ∨ o.kind = 3 ∨ o.kind = 4 then changeT T o zxid only
  else (T, readT T o)
def pathsT (T : TreeD) : List Str := T.nodes.map (·.1)
def ofT (T : TreeD) (sess : Int) : List Str := if 0 < sess then (T.nodes.filter fun x => x.2.stat.owner == sess).map (·.1) else []

theorem nodup_sub_len {α : Type} [DecidableEq α] : ∀ (l m : List α), l.Nodup → (∀ x ∈ l, x ∈ m) → l.length ≤ m.length
  | [], _, _, _ => by simp
  | a :: r, m, hn, hs => by
    have ha : a ∈ m := hs a (by simp)
    rw [List.nodup_cons] at hn
    have := nodup_sub_len r (m.erase a) hn.2 fun x hx => by
      have hne : x ≠ a := by rintro rfl; exact hn.1 hx
      exact (List.mem_erase_of_ne hne).2 (hs x (by simp [hx]))
    rw [List.length_erase_of_mem ha] at this
    have := List.length_pos_of_mem ha
    simp; omega

theorem mem_insS {x y : Str} {l : List Str} : y ∈ insS x l ↔ y = x ∨ y ∈ l := by
  unfold insS
  rw [List.mem_append, List.mem_cons]
  constructor
  · rintro (h | h | h)
    · exact .inr (List.mem_of_mem_take h)
    · exact .inl h
    · exact .inr (List.mem_of_mem_drop h)
  · rintro (h | h)
    · exact .inr (.inl h)
    · rw [← List.take_append_drop (rank x l) l, List.mem_append] at h
      rcases h with h | h
      · exact .inl h
      · exact .inr (.inr h)
theorem rising_nodup {l : List Str} (h : rising l) : l.Nodup := h.imp fun {a b} hab e => by rw [e, Key.irrefl] at hab; cases hab
theorem rising_ins {x : Str} {l : List Str} (h : rising l) (hx : x ∉ l) : rising (insS x l) := by
  have hd : ∀ y ∈ l.drop (rank x l), Key.lt x y = true := by
    intro y hy
    obtain ⟨t, ht, rfl⟩ := List.getElem_of_mem hy
    rw [List.length_drop] at ht
    rw [List.getElem_drop]
    have h1 := rank_hi h x (rank x l + t) (by omega) (by omega)
    rcases Key.total x l[rank x l + t] (fun e => hx (by rw [e]; exact List.getElem_mem _)) with h2 | h2
    · exact h2
    · rw [h1] at h2; cases h2
  have ht : ∀ y ∈ l.take (rank x l), Key.lt y x = true := by
    intro y hy
    rw [take_rank] at hy
    have := List.all_takeWhile (l := l) (p := fun y => Key.lt y x)
    exact List.all_eq_true.1 this y hy
  unfold insS rising
  rw [List.pairwise_append, List.pairwise_cons]
  have hp := h
  unfold rising at hp
  rw [← List.take_append_drop (rank x l) l, List.pairwise_append] at hp
  refine ⟨hp.1, ⟨hd, hp.2.1⟩, fun a ha b hb => ?_⟩
  rcases List.mem_cons.1 hb with rfl | hb
  · exact ht a ha
  · exact hp.2.2 a ha b hb
theorem delS_sub {x : Str} {l : List Str} : (delS x l).Sublist l := by
  unfold delS
  have h := List.take_append_drop (rank x l) l
  conv => rhs; rw [← h]
  refine List.Sublist.append (List.Sublist.refl _) ?_
  rw [show rank x l + 1 = 1 + rank x l from Nat.add_comm _ _, ← List.drop_drop]
  rw [List.drop_drop, Nat.add_comm, ← List.drop_drop]
  exact List.drop_sublist _ _
theorem rising_del {x : Str} {l : List Str} (h : rising l) : rising (delS x l) := h.sublist delS_sub
theorem mem_delS {x y : Str} {l : List Str} (h : rising l) (hx : x ∈ l) : y ∈ delS x l ↔ y ∈ l ∧ y ≠ x := by
  obtain ⟨hl, he⟩ := (mem_rank h x).1 hx
  have hn := rising_nodup h
  have e : l = l.take (rank x l) ++ x :: l.drop (rank x l + 1) := by
    conv => lhs; rw [← List.take_append_drop (rank x l) l, List.drop_eq_getElem_cons hl, he]
  unfold delS
  constructor
  · intro hy
    refine ⟨delS_sub.subset hy, ?_⟩
    rintro rfl
    rw [e, List.nodup_append, List.nodup_cons] at hn
    rcases List.mem_append.1 hy with hy | hy
    · exact hn.2.2 _ hy _ (by simp) rfl
    · exact hn.2.1.1 hy
  · rintro ⟨hy, hne⟩
    rw [e] at hy
    rcases List.mem_append.1 hy with hy | hy
    · exact List.mem_append_left _ hy
    · rcases List.mem_cons.1 hy with hy | hy
      · exact absurd hy hne
      · exact List.mem_append_right _ hy

/-- What is right of every tree. -/
structure TreeOk (T : TreeD) : Prop where
  room0 : 1 ≤ T.room
  room1 : T.room ≤ 500
  rise : asorted T.nodes
  good : ∀ x ∈ T.nodes, good x.1 = true
  node : ∀ x ∈ T.nodes, NodeOk x.2
  kids : ∀ x ∈ T.nodes, ∀ s ∈ x.2.names, ∃ y ∈ T.nodes, parent y.1 = some x.1 ∧ nameOf y.1 = s
  many : T.nodes.length ≤ T.room

theorem more_lo {n : Int} (h : 0 ≤ n) : 0 ≤ more n := by unfold more; split <;> omega
theorem more_hi {n : Int} (h : n ≤ 2147483647) : more n ≤ 2147483647 := by unfold more; split <;> omega
theorem newN_ok (zxid owner : Int) (data : Str) : NodeOk (newN zxid owner data) := ⟨List.Pairwise.nil, by simp [newN], by simp [newN], by simp [newN], by simp [newN], by simp [newN], by simp [newN], by simp [newN]⟩
theorem writeN_ok {n : NodeD} (h : NodeOk n) (zxid : Int) (data : Str) : NodeOk (writeN n zxid data) := ⟨h.rise, h.many, more_lo h.v0, more_hi h.v1, h.k0, h.k1, h.n0, h.n1⟩
theorem addN_ok {n : NodeD} (h : NodeOk n) (x : Str) (hl : (addN n x).names.length ≤ 100000) : NodeOk (addN n x) := by
  unfold addN at hl ⊢
  split
  · exact h
  · rename_i hx
    rw [if_neg hx] at hl
    exact ⟨rising_ins h.rise hx, hl, h.v0, h.v1, more_lo h.k0, more_hi h.k1, more_lo h.n0, more_hi h.n1⟩
theorem removeN_ok {n : NodeD} (h : NodeOk n) (x : Str) : NodeOk (removeN n x) := by
  unfold removeN
  split
  · exact ⟨rising_del h.rise, Nat.le_trans delS_sub.length_le h.many, h.v0, h.v1, more_lo h.k0, more_hi h.k1, h.n0, h.n1⟩
  · exact h

theorem kids_len {l : List (Str × NodeD)} {p : Str} {names : List Str} (hr : rising names) (hk : ∀ s ∈ names, ∃ y ∈ l, parent y.1 = some p ∧ nameOf y.1 = s) : names.length ≤ l.length := by
  have := nodup_sub_len names (l.map fun y => nameOf y.1) (rising_nodup hr) fun s hs => by
    obtain ⟨y, hy, _, h2⟩ := hk s hs
    exact List.mem_map.2 ⟨y, hy, h2⟩
  simpa using this
theorem mem_aput {K V : Type} [DecidableEq K] [Key K] {l : List (K × V)} {k : K} {v : V} {y : K × V} : y ∈ aput k v l ↔ y = (k, v) ∨ (y ∈ l ∧ y.1 ≠ k) := by
  unfold aput; rw [mem_ains, mem_adel]
theorem addN_names {n : NodeD} {x s : Str} : s ∈ (addN n x).names ↔ s = x ∨ s ∈ n.names := by
  unfold addN
  split
  · rename_i h
    constructor
    · exact .inr
    · rintro (rfl | h')
      · exact h
      · exact h'
  · exact mem_insS
theorem removeN_names {n : NodeD} (h : NodeOk n) {x s : Str} : s ∈ (removeN n x).names ↔ s ∈ n.names ∧ s ≠ x := by
  unfold removeN
  split
  · rename_i hx; exact mem_delS h.rise hx
  · rename_i hx
    exact ⟨fun hs => ⟨hs, by rintro rfl; exact hx hs⟩, fun hs => hs.1⟩

/-- A node put in the place of one that is there, with the same names. -/
theorem TreeOk.set {T : TreeD} (h : TreeOk T) {p : Str} {n m : NodeD} (hp : aget p T.nodes = some n) (hm : NodeOk m) (hs : ∀ s ∈ m.names, ∃ y ∈ T.nodes, parent y.1 = some p ∧ nameOf y.1 = s) : TreeOk { T with nodes := aput p m T.nodes } := by
  have hmem := aget_mem hp
  have hlen := length_aput h.rise p m
  rw [hp] at hlen
  have hk : ∀ y ∈ T.nodes, ∃ z ∈ aput p m T.nodes, z.1 = y.1 := fun y hy => by
    by_cases e : y.1 = p
    · exact ⟨(p, m), mem_aput.2 (.inl rfl), e.symm⟩
    · exact ⟨y, mem_aput.2 (.inr ⟨hy, e⟩), rfl⟩
  refine ⟨h.room0, h.room1, aput_sorted h.rise, fun x hx => ?_, fun x hx => ?_, fun x hx s hsn => ?_, ?_⟩
  · rcases mem_aput.1 hx with rfl | ⟨hx, _⟩
    · exact h.good (p, n) hmem
    · exact h.good x hx
  · rcases mem_aput.1 hx with rfl | ⟨hx, _⟩
    · exact hm
    · exact h.node x hx
  · have : ∃ y ∈ T.nodes, parent y.1 = some x.1 ∧ nameOf y.1 = s := by
      rcases mem_aput.1 hx with rfl | ⟨hx, _⟩
      · exact hs s hsn
      · exact h.kids x hx s hsn
    obtain ⟨y, hy, h1, h2⟩ := this
    obtain ⟨z, hz, e⟩ := hk y hy
    exact ⟨z, hz, by rw [e]; exact h1, by rw [e]; exact h2⟩
  · have := h.many
    show ((aput p m T.nodes).length : Int) ≤ T.room
    rw [hlen]; exact this

/-- A node more. -/
theorem TreeOk.more {T : TreeD} (h : TreeOk T) {p : Str} {m : NodeD} (hp : aget p T.nodes = none) (hg : Av.good p = true) (hm : NodeOk m) (hs : m.names = []) (hr : (T.nodes.length : Int) < T.room) : TreeOk { T with nodes := aput p m T.nodes } := by
  have hlen := length_aput h.rise p m
  rw [hp] at hlen
  refine ⟨h.room0, h.room1, aput_sorted h.rise, fun x hx => ?_, fun x hx => ?_, fun x hx s hsn => ?_, ?_⟩
  · rcases mem_aput.1 hx with rfl | ⟨hx, _⟩
    · exact hg
    · exact h.good x hx
  · rcases mem_aput.1 hx with rfl | ⟨hx, _⟩
    · exact hm
    · exact h.node x hx
  · rcases mem_aput.1 hx with rfl | ⟨hx, _⟩
    · rw [hs] at hsn; cases hsn
    · obtain ⟨y, hy, h1, h2⟩ := h.kids x hx s hsn
      exact ⟨y, mem_aput.2 (.inr ⟨hy, aget_none.1 hp y hy⟩), h1, h2⟩
  · show ((aput p m T.nodes).length : Int) ≤ T.room
    rw [hlen]; simp; omega

theorem layT_ok {T : TreeD} (h : TreeOk T) {p : Str} {m : NodeD} (hp : aget p T.nodes = none) (hg : Av.good p = true) (hm : NodeOk m) (hs : m.names = []) (hr : (T.nodes.length : Int) < T.room) : TreeOk (layT T p m) := by
  have h1 := h.more hp hg hm hs hr
  unfold layT onParent
  split
  · exact h1
  · rename_i up hup
    split
    · exact h1
    · rename_i n hn
      have hk : ∀ s ∈ (addN n (nameOf p)).names, ∃ y ∈ aput p m T.nodes, parent y.1 = some up ∧ nameOf y.1 = s := by
        intro s hs
        rcases addN_names.1 hs with rfl | hs
        · exact ⟨(p, m), mem_aput.2 (.inl rfl), hup, rfl⟩
        · exact h1.kids _ (aget_mem hn) s hs
      have hn2 := h1.node _ (aget_mem hn)
      have hrise : rising (addN n (nameOf p)).names := by
        unfold addN; split
        · exact hn2.rise
        · rename_i hx; exact rising_ins hn2.rise hx
      have hl := kids_len hrise hk
      have := h1.many
      have := h1.room1
      simp only at this hl
      refine h1.set hn (addN_ok hn2 _ (by simp at *; omega)) hk

/-- A node less, whose children are gone. -/
theorem removeT_ok {T : TreeD} (h : TreeOk T) (p : Str) : TreeOk (removeT T p) := by
  have hd : asorted (adel p T.nodes) := adel_sorted h.rise
  have hlen : ((adel p T.nodes).length : Int) ≤ T.room := by
    have : (adel p T.nodes).length ≤ T.nodes.length := List.length_filter_le _ _
    have := h.many
    omega
  have kid : ∀ x ∈ adel p T.nodes, (parent p ≠ some x.1) → ∀ s ∈ x.2.names, ∃ y ∈ adel p T.nodes, parent y.1 = some x.1 ∧ nameOf y.1 = s := by
    intro x hx hne s hs
    obtain ⟨y, hy, h1, h2⟩ := h.kids x (mem_adel.1 hx).1 s hs
    exact ⟨y, mem_adel.2 ⟨hy, by rintro e; rw [e] at h1; exact hne h1⟩, h1, h2⟩
  have base : (∀ x ∈ adel p T.nodes, parent p ≠ some x.1) → TreeOk { T with nodes := adel p T.nodes } := fun hne =>
    ⟨h.room0, h.room1, hd, fun x hx => h.good x (mem_adel.1 hx).1, fun x hx => h.node x (mem_adel.1 hx).1, fun x hx => kid x hx (hne x hx), hlen⟩
  unfold removeT onParent
  split
  · rename_i hp
    exact base fun x _ => by rw [hp]; simp
  · rename_i up hup
    split
    · rename_i hn
      refine base fun x hx e => ?_
      rw [hup] at e
      cases e
      exact aget_none.1 hn x hx rfl
    · rename_i n hn
      simp only at hn
      have hm := aget_mem hn
      have hm' := (mem_adel.1 hm).1
      have hok := h.node _ hm'
      have hl := length_aput hd up (removeN n (nameOf p))
      rw [hn] at hl
      have tr : ∀ y ∈ adel p T.nodes, ∃ z ∈ aput up (removeN n (nameOf p)) (adel p T.nodes), z.1 = y.1 := fun y hy => by
        by_cases e : y.1 = up
        · exact ⟨_, mem_aput.2 (.inl rfl), e.symm⟩
        · exact ⟨y, mem_aput.2 (.inr ⟨hy, e⟩), rfl⟩
      have tr2 : ∀ (q s : Str), (∃ y ∈ adel p T.nodes, parent y.1 = some q ∧ nameOf y.1 = s) → ∃ y ∈ aput up (removeN n (nameOf p)) (adel p T.nodes), parent y.1 = some q ∧ nameOf y.1 = s := by
        rintro q s ⟨y, hy, h1, h2⟩
        obtain ⟨z, hz, e⟩ := tr y hy
        exact ⟨z, hz, by rw [e]; exact h1, by rw [e]; exact h2⟩
      refine ⟨h.room0, h.room1, aput_sorted hd, fun x hx => ?_, fun x hx => ?_, fun x hx s hs => ?_, ?_⟩
      · rcases mem_aput.1 hx with rfl | ⟨hx, _⟩
        · exact h.good (up, n) hm'
        · exact h.good x (mem_adel.1 hx).1
      · rcases mem_aput.1 hx with rfl | ⟨hx, _⟩
        · exact removeN_ok hok _
        · exact h.node x (mem_adel.1 hx).1
      · apply tr2
        rcases mem_aput.1 hx with rfl | ⟨hx, hne⟩
        · obtain ⟨h1, h2⟩ := (removeN_names hok).1 hs
          obtain ⟨y, hy, h3, h4⟩ := h.kids (up, n) hm' s h1
          exact ⟨y, mem_adel.2 ⟨hy, by rintro e; rw [e] at h4; exact h2 h4.symm⟩, h3, h4⟩
        · refine kid x hx (fun e => hne ?_) s hs
          rw [hup] at e; cases e; rfl
      · show ((aput up (removeN n (nameOf p)) (adel p T.nodes)).length : Int) ≤ T.room
        rw [hl]; exact hlen

theorem setN_ok {T : TreeD} (h : TreeOk T) {p : Str} {n : NodeD} (hp : aget p T.nodes = some n) (zxid : Int) (data : Str) : TreeOk { T with nodes := aput p (writeN n zxid data) T.nodes } :=
  h.set hp (writeN_ok (h.node _ (aget_mem hp)) _ _) fun s hs => h.kids _ (aget_mem hp) s hs

theorem opGood_good {o : OpD} (h : opGood o = 0) : Av.good o.path = true := by
  unfold opGood at h
  split at h
  · cases h
  · rename_i hf
    simp [formedB] at hf
    exact hf.2.2.1
theorem number_good {p q : Str} {n : Int} (h : number p n = some q) : Av.good q = true := by
  unfold number at h
  split at h
  · rename_i hc; cases h; exact hc.2.2.2
  · cases h
theorem placeEnd_ok {T : TreeD} {p q : Str} (h : placeEnd T p = (q, 0)) : q = p ∧ aget p T.nodes = none ∧ (T.nodes.length : Int) < T.room := by
  unfold placeEnd at h
  split at h
  · cases h
  · split at h
    · cases h
    · cases h
      rename_i h1 h2
      exact ⟨rfl, by simpa using h1, by omega⟩
theorem placeT_ok {T : TreeD} {o : OpD} (ho : Av.good o.path = true) {q : Str} (h : placeT T o = (q, 0)) : Av.good q = true ∧ aget q T.nodes = none ∧ (T.nodes.length : Int) < T.room := by
  unfold placeT at h
  split at h
  · obtain ⟨rfl, h2⟩ := placeEnd_ok h; exact ⟨ho, h2⟩
  · split at h
    · cases h
    · split at h
      · cases h
      · split at h
        · split at h
          · cases h
          · rename_i q' hq
            obtain ⟨rfl, h2⟩ := placeEnd_ok h; exact ⟨number_good hq, h2⟩
        · obtain ⟨rfl, h2⟩ := placeEnd_ok h; exact ⟨ho, h2⟩
theorem createT_ok {T : TreeD} (h : TreeOk T) {o : OpD} (ho : Av.good o.path = true) (sess zxid : Int) (only : Bool) : TreeOk (createT T o sess zxid only).1 := by
  unfold createT
  simp only
  split
  · rename_i h0
    obtain ⟨a, b, c⟩ := placeT_ok ho (q := (placeT T o).1) (by rw [← h0])
    split
    · exact h
    · exact layT_ok h b a (newN_ok _ _ _) rfl c
  · exact h
theorem changeT_ok {T : TreeD} (h : TreeOk T) (o : OpD) (zxid : Int) (only : Bool) : TreeOk (changeT T o zxid only).1 := by
  unfold changeT
  split
  · exact h
  · rename_i n hn
    split
    · exact h
    · split
      · exact h
      · split
        · simp only; split
          · exact h
          · exact removeT_ok h _
        · split
          · simp only; split
            · exact h
            · exact setN_ok h hn _ _
          · exact h
theorem doT_ok {T : TreeD} (h : TreeOk T) (o : OpD) (sess zxid : Int) (only : Bool) : TreeOk (doT T o sess zxid only).1 := by
  unfold doT
  split
  · exact h
  · rename_i h0
    split
    · exact h
    · split
      · exact createT_ok h (opGood_good (by simpa using h0)) _ _ _
      · split
        · exact changeT_ok h _ _ _
        · exact h

end Go.Av

/- Chapter 12's requests, as plain data. -/
namespace Go.Av

def stepR (sess zxid : Int) (a : TreeD × List ResD) (o : OpD) : TreeD × List ResD := ((doT a.1 o sess zxid false).1, a.2 ++ [(doT a.1 o sess zxid false).2])
/-- All ops one behind the other, whatever each is answered. -/
def runR (T : TreeD) (sess zxid : Int) (l : List OpD) : TreeD × List ResD := l.foldl (stepR sess zxid) (T, [])
def bad (r : ResD) : Bool := r.err != 0
def multiDo (T : TreeD) (sess zxid : Int) (l : List OpD) : TreeD × ReplyD × Bool :=
  if 16 < l.length then (T, failRep 0 2 (-1) 0, false)
  else if l.length = 0 then (T, failRep 0 1 (-1) 0, false)
  else match (runR T sess zxid l).2.findIdx? bad with
    | some i => (T, failRep 0 (((runR T sess zxid l).2.getD i (failRes 0)).err) i l.length, false)
    | none => ((runR T sess zxid l).1, ⟨0, zxid, 0, -1, (runR T sess zxid l).2⟩, true)
def multiReq (T : TreeD) (r : Req) (zxid : Int) : TreeD × ReplyD :=
  if may r ≠ 0 then (T, failRep r.num (may r) (-1) 0)
  else ((multiDo T r.sess zxid r.ops).1, { (multiDo T r.sess zxid r.ops).2.1 with num := r.num, zxid := zxid })

variable {T : TreeD} {sess zxid : Int}
theorem runR_snoc (l : List OpD) (o : OpD) : runR T sess zxid (l ++ [o]) = stepR sess zxid (runR T sess zxid l) o := by simp [runR]
theorem runR_take {l : List OpD} {k : Nat} (hk : k < l.length) : runR T sess zxid (l.take (k + 1)) = stepR sess zxid (runR T sess zxid (l.take k)) l[k] := by
  rw [List.take_succ_eq_append_getElem hk, runR_snoc]
theorem runR_len (l : List OpD) : (runR T sess zxid l).2.length = l.length := by
  have : ∀ (l : List OpD) (a : TreeD × List ResD), (l.foldl (stepR sess zxid) a).2.length = a.2.length + l.length := by
    intro l
    induction l with
    | nil => intro a; simp
    | cons o r ih => intro a; rw [List.foldl_cons, ih]; simp [stepR]; omega
  have h := this l (T, [])
  rw [show runR T sess zxid l = l.foldl (stepR sess zxid) (T, []) from rfl, h]; simp
theorem runR_pre (l : List OpD) (k : Nat) (hk : k ≤ l.length) : (runR T sess zxid l).2.take k = (runR T sess zxid (l.take k)).2 := by
  have : ∀ (r : List OpD) (a : TreeD × List ResD), ∃ m, (r.foldl (stepR sess zxid) a).2 = a.2 ++ m := by
    intro r
    induction r with
    | nil => intro a; exact ⟨[], by simp⟩
    | cons o r ih =>
      intro a
      obtain ⟨m, hm⟩ := ih (stepR sess zxid a o)
      exact ⟨(doT a.1 o sess zxid false).2 :: m, by rw [List.foldl_cons, hm]; simp [stepR]⟩
  obtain ⟨m, hm⟩ := this (l.drop k) (runR T sess zxid (l.take k))
  have e : runR T sess zxid l = (l.drop k).foldl (stepR sess zxid) (runR T sess zxid (l.take k)) := by
    unfold runR; rw [← List.foldl_append, List.take_append_drop]
  rw [e, hm, List.take_append_of_le_length (by rw [runR_len]; simp; omega), List.take_of_length_le (by rw [runR_len]; simp; omega)]
theorem runR_ok (h : TreeOk T) (l : List OpD) : TreeOk (runR T sess zxid l).1 := by
  have : ∀ (l : List OpD) (a : TreeD × List ResD), TreeOk a.1 → TreeOk (l.foldl (stepR sess zxid) a).1 := by
    intro l
    induction l with
    | nil => intro a h; exact h
    | cons o r ih => intro a h; rw [List.foldl_cons]; exact ih _ (doT_ok h o sess zxid false)
  exact this l (T, []) h
/-- No failure till k, and one there: that is the first. -/
theorem first_bad {l : List ResD} {k : Nat} (hk : k < l.length) (h1 : ∀ r ∈ l.take k, bad r = false) (h2 : bad l[k] = true) : l.findIdx? bad = some k := by
  rw [List.findIdx?_eq_some_iff_getElem]
  refine ⟨hk, h2, fun j hj => ?_⟩
  have : l[j] ∈ l.take k := by
    rw [List.mem_take_iff_getElem]
    exact ⟨j, by omega, rfl⟩
  simp [h1 _ this]
theorem no_bad {l : List ResD} (h1 : ∀ r ∈ l, bad r = false) : l.findIdx? bad = none := by
  rw [List.findIdx?_eq_none_iff]; exact h1

theorem multiDo_bad {l : List OpD} (h0 : 0 < l.length) (h16 : l.length ≤ 16) {k : Nat} (hk : k < (runR T sess zxid l).2.length) (h1 : ∀ r ∈ (runR T sess zxid l).2.take k, bad r = false) (h2 : bad (runR T sess zxid l).2[k] = true) :
    multiDo T sess zxid l = (T, failRep 0 (runR T sess zxid l).2[k].err k l.length, false) := by
  rw [multiDo, if_neg (by omega), if_neg (by omega), first_bad hk h1 h2]
  simp [List.getD_eq_getElem?_getD, hk]
theorem multiDo_ok {l : List OpD} (h0 : 0 < l.length) (h16 : l.length ≤ 16) (h1 : ∀ r ∈ (runR T sess zxid l).2, bad r = false) :
    multiDo T sess zxid l = ((runR T sess zxid l).1, ⟨0, zxid, 0, -1, (runR T sess zxid l).2⟩, true) := by
  rw [multiDo, if_neg (by omega), if_neg (by omega), no_bad h1]
/-- The failure as the loop meets it. -/
theorem multiDo_at {l : List OpD} (h0 : 0 < l.length) (h16 : l.length ≤ 16) {k : Nat} (hk : k < l.length) (h1 : ∀ r ∈ (runR T sess zxid (l.take k)).2, bad r = false) {e : Int} (he : (doT (runR T sess zxid (l.take k)).1 l[k] sess zxid false).2.err = e) (hne : e ≠ 0) :
    multiDo T sess zxid l = (T, failRep 0 e k l.length, false) := by
  have hlen := runR_len (T := T) (sess := sess) (zxid := zxid) l
  have hk' : k < (runR T sess zxid l).2.length := by omega
  have hp := runR_pre (T := T) (sess := sess) (zxid := zxid) l (k + 1) (by omega)
  have hp0 := runR_pre (T := T) (sess := sess) (zxid := zxid) l k (by omega)
  have e1 : (runR T sess zxid l).2[k] = (doT (runR T sess zxid (l.take k)).1 l[k] sess zxid false).2 := by
    have : ((runR T sess zxid l).2.take (k + 1))[k]? = (runR T sess zxid (l.take (k + 1))).2[k]? := by rw [hp]
    rw [List.getElem?_take, if_pos (by omega), List.getElem?_eq_getElem hk', runR_take hk] at this
    simp only [stepR] at this
    rw [List.getElem?_append_right (by rw [runR_len]; simp; omega), runR_len] at this
    simp at this
    have e2 : k - min k l.length = 0 := by omega
    rw [e2] at this
    simpa using this
  have := multiDo_bad (T := T) (sess := sess) (zxid := zxid) h0 h16 hk' (by rw [hp0]; exact h1) (by rw [e1, bad, he]; simpa using hne)
  rw [this, e1, he]

end Go.Av

/- Chapter 17's locks, as plain data. -/
namespace Go.Av

abbrev LocksD := List (Str × Int)

/-- Does what x holds block p? -/
def hits (p : Str) (q : Str) : Bool := q == p || (q == (parent p).getD [] || ((parent q).isSome && (parent q).getD [] == p))
def blocksB (L : LocksD) (who : Int) (p : Str) : Bool := good p && L.any fun x => !(x.2 == who) && hits p x.1
def wrongP (L : LocksD) (who : Int) (l : List Str) : Option Str := (l.find? fun p => !good p).or (l.find? fun p => blocksB L who p)
def takeL (L : LocksD) (who : Int) (l : List Str) : LocksD := l.foldl (fun L p => aput p who L) L
def freeL (L : LocksD) (who : Int) : LocksD := L.filter fun x => !(x.2 == who)

/-- What is right of all locks: in order; every path is good; so many. -/
structure LocksOk (L : LocksD) : Prop where
  rise : asorted L
  good : ∀ x ∈ L, good x.1 = true
  many : L.length ≤ 1000000

theorem good_len {p : Str} (h : good p = true) : p.length ≤ 200 := by
  cases hr : restOf p with
  | none => simp [good, hr] at h
  | some r =>
    have := restOf_some hr
    subst this
    simp only [good, hr] at h
    grind

theorem takeL_ok {L : LocksD} (h : LocksOk L) (who : Int) : ∀ (l : List Str), (∀ p ∈ l, Av.good p = true) → L.length + l.length ≤ 1000000 → LocksOk (takeL L who l) ∧ (takeL L who l).length ≤ L.length + l.length := by
  intro l
  induction l generalizing L with
  | nil => intro _ hl; exact ⟨h, by simp [takeL]⟩
  | cons p r ih =>
    intro hg hl
    have hlen := length_aput h.rise p who
    simp at hl
    have h1 : LocksOk (aput p who L) := by
      refine ⟨aput_sorted h.rise, fun x hx => ?_, by split at hlen <;> omega⟩
      unfold aput at hx
      rcases mem_ains.1 hx with rfl | hx
      · exact hg _ (by simp)
      · exact h.good x (mem_adel.1 hx).1
    obtain ⟨a, b⟩ := ih h1 (fun q hq => hg q (by simp [hq])) (by split at hlen <;> omega)
    refine ⟨a, ?_⟩
    show (takeL (aput p who L) who r).length ≤ _
    simp
    split at hlen <;> omega
theorem freeL_ok {L : LocksD} (h : LocksOk L) (who : Int) : LocksOk (freeL L who) := by
  refine ⟨List.Pairwise.filter _ h.rise, fun x hx => h.good x (List.mem_filter.1 hx).1, Nat.le_trans (List.length_filter_le _ _) h.many⟩

end Go.Av

/- Chapter 18's part, as plain data. -/
namespace Go.Av

structure PrepD where
  sess : Int
  ops : List OpD
  close : Bool
  fails : Bool
  deriving DecidableEq, Inhabited

structure PartD where
  room : Int
  tree : TreeD
  locks : LocksD
  zxid : Int
  wait : List (Int × PrepD)
  decided : List (Int × Bool)
  closed : List (Int × Bool)

def newP (room : Int) : PartD := ⟨room, ⟨room, []⟩, [], 0, [], [], []⟩

def isCreate (o : OpD) : Bool := o.kind == 1
def createsN (l : List OpD) : Nat := l.countP isCreate
def firstC (l : List OpD) : Nat := (l.findIdx? isCreate).getD 0
def wantsX (x : PrepD) : Nat := if x.fails then 0 else createsN x.ops
def wantedW (W : List (Int × PrepD)) : Nat := (W.map fun x => wantsX x.2).sum
def wantedP (P : PartD) : Nat := wantedW P.wait
def wantsO (o : OpD) : List Str := match parent o.path with
  | some up => if o.kind = 1 ∧ seqB o.flags = true then [o.path, up] else [o.path]
  | none => [o.path]
def closingB (P : PartD) (sess : Int) : Bool := P.wait.any fun x => x.2.close && x.2.sess == sess
def usesB (P : PartD) (sess : Int) : Bool := P.wait.any fun x => x.2.sess == sess
def isIn (k : Int) (l : List (Int × Bool)) : Bool := (aget k l).getD false
def blockedO (L : LocksD) (id : Int) (o : OpD) : Bool := (wantsO o).any fun s => blocksB L id s
def blockedAt (L : LocksD) (id : Int) (l : List OpD) : Option Nat := l.findIdx? (blockedO L id)
def busyP (P : PartD) (id sess : Int) (l : List OpD) : Int × Int :=
  if isIn sess P.closed = true then (11, -1)
  else if closingB P sess = true then (12, -1)
  else match blockedAt P.locks id l with
    | some i => (12, i)
    | none => if 0 < createsN l ∧ 0 < wantedP P ∧ P.room < (wantedP P : Int) + P.tree.nodes.length + createsN l then (12, firstC l) else (0, -1)
def localP (P : PartD) (r : Req) : PartD × ReplyD :=
  if may r ≠ 0 then (P, failRep r.num (may r) (-1) 0)
  else
    let b := busyP P 0 r.sess r.ops
    if b.1 ≠ 0 then ({ P with zxid := P.zxid + 1 }, { failRep r.num b.1 b.2 r.ops.length with zxid := P.zxid + 1 })
    else
      let m := multiReq P.tree r (P.zxid + 1)
      ({ P with zxid := P.zxid + 1, tree := m.1 }, m.2)
def knownB (P : PartD) (id sess : Int) : Bool := decide (id < 1) || (decide (sess < 1) || ((aget id P.wait).isSome || isIn id P.decided))
/-- Take, whatever it answers. -/
def takeS (L : LocksD) (who : Int) (l : List Str) : LocksD := match wrongP L who l with
  | some _ => L
  | none => takeL L who l
def takeOps (L : LocksD) (who : Int) (l : List OpD) : LocksD := l.foldl (fun L o => takeS L who (wantsO o)) L
def prepareP (P : PartD) (id sess : Int) (l : List OpD) : PartD × (Int × Int) :=
  if knownB P id sess = true then (P, (1, -1))
  else if may ⟨sess, 1, l⟩ ≠ 0 then (P, (may ⟨sess, 1, l⟩, -1))
  else
    let b := busyP P id sess l
    if b.1 ≠ 0 then (P, b)
    else
      let m := multiDo P.tree sess P.zxid l
      ({ P with locks := takeOps P.locks id l, wait := aput id ⟨sess, l, false, !m.2.2⟩ P.wait }, if m.2.2 = true then (0, -1) else (m.2.1.err, m.2.1.place))
def closeP (P : PartD) (id sess : Int) : PartD × (Int × Int) :=
  if knownB P id sess = true then (P, (1, -1))
  else if isIn sess P.closed = true then (P, (11, -1))
  else if usesB P sess = true then (P, (12, -1))
  else match wrongP P.locks id (ofT P.tree sess) with
    | some _ => (P, (12, -1))
    | none => ({ P with locks := takeL P.locks id (ofT P.tree sess), wait := aput id ⟨sess, [], true, false⟩ P.wait }, (0, -1))
def purgeT (T : TreeD) (sess : Int) : TreeD := (ofT T sess).foldl removeT T
def decideP (P : PartD) (id : Int) (commit : Bool) : PartD × (List ResD × Int) :=
  match aget id P.wait with
  | none => (P, ([], 4))
  | some x =>
    let P1 := { P with zxid := P.zxid + 1, locks := freeL P.locks id, wait := adel id P.wait, decided := aput id true P.decided }
    if (!commit || x.fails) = true then (P1, ([], 0))
    else if x.close = true then ({ P1 with tree := purgeT P.tree x.sess, closed := aput x.sess true P.closed }, ([], 0))
    else
      let m := multiDo P.tree x.sess (P.zxid + 1) x.ops
      ({ P1 with tree := m.1 }, (m.2.1.results, 0))

end Go.Av

/- Nodes removed one behind the other: in whatever order. -/
namespace Go.Av

theorem get_remove {T : TreeD} (h : asorted T.nodes) (p k : Str) : aget k (removeT T p).nodes = if k = p then none else if parent p = some k then (aget k T.nodes).map (fun n => removeN n (nameOf p)) else aget k T.nodes := by
  have hd := adel_sorted (k := p) h
  have hg := aget_adel h p k
  unfold removeT onParent
  split
  · rename_i hp
    rw [hp]; simp only [reduceCtorEq, if_false]
    exact hg
  · rename_i up hup
    rw [hup]
    split
    · rename_i hn
      simp only at hn ⊢
      rw [hg]
      by_cases e : k = p
      · rw [if_pos e, if_pos e]
      · rw [if_neg e, if_neg e]
        by_cases e2 : up = k
        · subst e2
          rw [hg, if_neg e] at hn
          simp [hn]
        · rw [if_neg (by simpa using e2)]
    · rename_i n hn
      simp only at hn ⊢
      rw [aget_aput hd]
      by_cases e2 : k = up
      · subst e2
        rw [hg] at hn
        by_cases e : k = p
        · rw [if_pos e] at hn; cases hn
        · rw [if_neg e] at hn
          simp [e, hn]
      · rw [if_neg e2, hg]
        by_cases e : k = p
        · rw [if_pos e, if_pos e]
        · rw [if_neg e, if_neg e, if_neg (by simpa using fun h => e2 h.symm)]

theorem rising_ext {l m : List Str} (h : rising l) (h' : rising m) (he : ∀ x, x ∈ l ↔ x ∈ m) : l = m := by
  have hp : l.Perm m := (List.perm_ext_iff_of_nodup (rising_nodup h) (rising_nodup h')).2 he
  refine hp.eq_of_pairwise (le := fun a b => Key.lt a b = true) (fun a b _ _ h1 h2 => ?_) h h'
  have := Key.trans _ _ _ h1 h2
  rw [Key.irrefl] at this; cases this

theorem removeN_comm {n : NodeD} (h : NodeOk n) (a b : Str) : removeN (removeN n a) b = removeN (removeN n b) a := by
  by_cases e : a = b
  · subst e; rfl
  have ha := removeN_ok h a
  have hb := removeN_ok h b
  have na := fun s => removeN_names h (x := a) (s := s)
  have nb := fun s => removeN_names h (x := b) (s := s)
  have nab := fun s => removeN_names ha (x := b) (s := s)
  have nba := fun s => removeN_names hb (x := a) (s := s)
  have hn : (removeN (removeN n a) b).names = (removeN (removeN n b) a).names := by
    refine rising_ext (removeN_ok ha b).rise (removeN_ok hb a).rise fun s => ?_
    rw [nab, nba, na, nb]
    constructor <;> (rintro ⟨⟨h1, h2⟩, h3⟩; exact ⟨⟨h1, h3⟩, h2⟩)
  by_cases ia : a ∈ n.names
  · by_cases ib : b ∈ n.names
    · have iab : b ∈ (removeN n a).names := (na b).2 ⟨ib, fun e2 => e e2.symm⟩
      have iba : a ∈ (removeN n b).names := (nb a).2 ⟨ia, e⟩
      have e1 : removeN n a = { n with stat := { n.stat with count := (delS a n.names).length, kids := more n.stat.kids }, names := delS a n.names } := by rw [removeN, if_pos ia]
      have e2 : removeN n b = { n with stat := { n.stat with count := (delS b n.names).length, kids := more n.stat.kids }, names := delS b n.names } := by rw [removeN, if_pos ib]
      have f1 : removeN (removeN n a) b = { removeN n a with stat := { (removeN n a).stat with count := (delS b (removeN n a).names).length, kids := more (removeN n a).stat.kids }, names := delS b (removeN n a).names } := by rw [removeN, if_pos iab]
      have f2 : removeN (removeN n b) a = { removeN n b with stat := { (removeN n b).stat with count := (delS a (removeN n b).names).length, kids := more (removeN n b).stat.kids }, names := delS a (removeN n b).names } := by rw [removeN, if_pos iba]
      rw [f1, f2] at hn ⊢
      simp only at hn
      rw [hn]
      simp only [e1, e2]
    · have iab : b ∉ (removeN n a).names := fun h => ib ((na b).1 h).1
      have e2 : removeN n b = n := by rw [removeN, if_neg ib]
      have f1 : removeN (removeN n a) b = removeN n a := by rw [removeN, if_neg iab]
      rw [f1, e2]
  · have e1 : removeN n a = n := by rw [removeN, if_neg ia]
    have iba : a ∉ (removeN n b).names := fun h => ia ((nb a).1 h).1
    have f2 : removeN (removeN n b) a = removeN n b := by rw [removeN, if_neg iba]
    rw [f2, e1]

theorem TreeD.eq_of {T S : TreeD} (hr : T.room = S.room) (hn : T.nodes = S.nodes) : T = S := by
  cases T; cases S; simp only at hr hn; subst hr hn; rfl
theorem removeT_room (T : TreeD) (p : Str) : (removeT T p).room = T.room := by
  unfold removeT onParent
  split
  · rfl
  · split <;> rfl

theorem removeT_comm {T : TreeD} (h : TreeOk T) (p q : Str) : removeT (removeT T p) q = removeT (removeT T q) p := by
  have hp := removeT_ok h p
  have hq := removeT_ok h q
  refine TreeD.eq_of (by simp only [removeT_room]) (asorted_ext (removeT_ok hp q).rise (removeT_ok hq p).rise fun k => ?_)
  rw [get_remove hp.rise, get_remove hq.rise, get_remove h.rise, get_remove h.rise]
  by_cases e1 : k = q
  · by_cases e2 : k = p
    · simp [e1, e2]
    · simp only [e1, if_true]
      rw [← e1, if_neg e2]
      by_cases e3 : parent p = some k
      · simp [e3]
      · simp [e3]
  · by_cases e2 : k = p
    · simp only [if_neg e1, e2, if_true]
      by_cases e3 : parent q = some p
      · simp [e3]
      · simp [e3]
    · simp only [if_neg e1, if_neg e2]
      by_cases e3 : parent p = some k
      · by_cases e4 : parent q = some k
        · simp only [e3, e4, if_true]
          cases hg : aget k T.nodes with
          | none => rfl
          | some n =>
            simp only [Option.map_some]
            rw [removeN_comm (h.node _ (aget_mem hg))]
        · simp [e3, e4]
      · simp [e3]

theorem removes_perm {l m : List Str} (hp : l.Perm m) : ∀ {T : TreeD}, TreeOk T → l.foldl removeT T = m.foldl removeT T := by
  induction hp with
  | nil => intro T _; rfl
  | cons x _ ih => intro T h; exact ih (removeT_ok h x)
  | swap x y l => intro T h; simp only [List.foldl_cons]; rw [removeT_comm h]
  | trans _ _ ih1 ih2 => intro T h; exact (ih1 h).trans (ih2 h)
theorem removes_ok {T : TreeD} (h : TreeOk T) (l : List Str) : TreeOk (l.foldl removeT T) := by
  induction l generalizing T with
  | nil => exact h
  | cons x r ih => exact ih (removeT_ok h x)
theorem purgeT_ok {T : TreeD} (h : TreeOk T) (sess : Int) : TreeOk (purgeT T sess) := removes_ok h _

end Go.Av

/- A Go map in memory, as a sorted list of pairs: what each operation on it does. -/
namespace Go.Av
open Go.RowKit Go.ChangeMaps Go.MapKept Go.Maps

/-- An element is told by its value. -/
def tok (v : Value) : Option (DataW Value × List MemPlace) := some (.held v, [])

/-- The keys of type kt are told by K. -/
structure KeyT (P : Program) (kt : TypeId) (K : Type) [DecidableEq K] [Key K] (ok : K → Prop) : Prop where
  keyed : Keyed P kt
  of : ∀ k : K, ok k → keyOf P kt (Key.kv k) = some (Key.lit k)
  inv : ∀ (v : Value) (k : K), keyOf P kt v = some (Key.lit k) → v = Key.kv k

theorem keyT_str {P : Program} {kt : TypeId} (h : P.underlying kt = some .string) : KeyT P kt Str fun s => s.length ≤ maxLen :=
  ⟨string_keyed h, fun k hk => by
    have := Go.WideMaps.keyOf_string_mk h (s := mkB k) (by simpa using hk)
    simpa [Key.kv, Key.lit] using this, fun v k hv => by
    unfold keyOf at hv
    rw [h] at hv
    cases v <;> simp [mapKey, Key.lit, h] at hv
    rename_i s
    obtain ⟨_, rfl⟩ := hv
    simp [Key.kv, mkB]⟩
theorem keyT_int {P : Program} {kt : TypeId} (h : P.underlying kt = some (.int .i64)) : KeyT P kt Int fun n => (Lit.int .i64 n).wf = true :=
  ⟨int_keyed h, fun k hk => keyOf_int_mk h hk, fun v k hv => by
    unfold keyOf at hv
    rw [h] at hv
    cases v <;> simp [mapKey, Key.lit, h] at hv
    obtain ⟨⟨rfl, _⟩, rfl⟩ := hv
    rfl⟩

section
variable {K V : Type} [DecidableEq K] [Key K] {ok : K → Prop} {P : Program} {kt e t : TypeId}

/-- Block b of w is a Go map that holds l, each element as f says. -/
def MapV (P : Program) (kt : TypeId) (w : World) (f : K → V → Value) (b : Nat) (l : List (K × V)) : Prop := w.ownsMap P kt tok b l.length (.map (enc f l))

variable {w w' : World} {f f' : K → V → Value} {b : Nat} {l : List (K × V)}

theorem MapV.lt (h : MapV P kt w f b l) : b < w.heap.size := World.ownsMap.lt h
theorem MapV.isMap (h : MapV P kt w f b l) : ∃ es c, w.heap[b]? = some (.map es c) := by
  obtain ⟨es, c, hb, _⟩ := h; exact ⟨es, c, hb⟩
theorem MapV.keep (h : MapV P kt w f b l) (hb : w'.heap[b]? = w.heap[b]?) : MapV P kt w' f b l := by
  obtain ⟨es, c, h1, h2⟩ := h
  exact ⟨es, c, hb.trans h1, h2⟩
theorem MapV.pu (h : MapV P kt w f b l) (hp : Pu w w') : MapV P kt w' f b l := h.keep (hp.block b h.lt)
theorem MapV.fr {M : Nat → Prop} (h : MapV P kt w f b l) (hp : Fr M w w') (hm : ¬ M b) : MapV P kt w' f b l := h.keep (hp.keep b h.lt hm)
theorem MapV.congr (h : MapV P kt w f b l) (hf : ∀ x ∈ l, f x.1 x.2 = f' x.1 x.2) : MapV P kt w f' b l := by
  unfold MapV; rw [← enc_congr f f' l hf]; exact h
theorem MapV.made (w : World) (f : K → V → Value) : MapV P kt (w.alloc (.map #[] 0)) f w.heap.size [] := World.ownsMap_made w P kt tok
/-- However its bound was told. -/
theorem MapV.exact {n : Nat} (h : w.ownsMap P kt tok b n (.map (enc f l))) : MapV P kt w f b l := by
  obtain ⟨es, c, hb, F, _, hD⟩ := h
  refine ⟨es, c, hb, F, ?_, hD⟩
  simp only [DataW.map.injEq] at hD
  have := congrArg List.length hD
  rw [length_sorted] at this
  simp [enc] at this
  omega

theorem turned_fr (h : w.mapTurned w' b) : Fr (fun x => x = b) w w' := by
  have := h.grown
  exact ⟨this.os, this.tape, this.output, this.size, fun i hi hn => this.block i hi (fun e => hn (by simpa using e))⟩
theorem turned_size (h : w.mapTurned w' b) : w'.heap.size = w.heap.size := by
  obtain ⟨es, clock, es', clock', hb, rfl⟩ := h; simp [setBlock]
theorem turned_cell (h : w.mapTurned w' b) (a : Addr) : w'.cell? a = w.cell? a := by
  obtain ⟨es, clock, es', clock', hb, rfl⟩ := h
  by_cases e : a.block = b
  · subst e
    have hlt : a.block < w.heap.size := lt_of_blk hb
    have e1 : (setBlock w a.block (.map es' clock')).heap[a.block]? = some (.map es' clock') := heap_setBlock_same hb _
    unfold World.cell?
    rw [hb, e1]
  · exact World.cell?_of_block (heap_setBlock_other hb _ e)

theorem MapV.look (h : MapV P kt w f b l) (T : KeyT P kt K ok) (ht : P.underlying t = some (.map kt e)) {z : Value} (hz : (zeroValue e).run P w = .ok z w) (k : K) (hk : ok k) :
    (Instr.lookup t (.map (some b)) (Key.kv k) false).run P w = .ok ((aget k l).elim z (f k)) w := by
  obtain ⟨v, ps, hrun, hv⟩ := World.ownsMap.lookup h T.keyed ht hz (zd := .held z) (zp := []) rfl (T.of k hk)
  rw [enc_at] at hv
  simp only [tok, Option.some.injEq, Prod.mk.injEq, DataW.held.injEq] at hv
  rw [hrun, hv.1]
theorem MapV.look_ok (h : MapV P kt w f b l) (T : KeyT P kt K ok) (ht : P.underlying t = some (.map kt e)) {z : Value} (hz : (zeroValue e).run P w = .ok z w) (k : K) (hk : ok k) :
    (Instr.lookup t (.map (some b)) (Key.kv k) true).run P w = .ok (.tuple #[(aget k l).elim z (f k), .bool (aget k l).isSome]) w := by
  obtain ⟨v, ps, hrun, hv⟩ := World.ownsMap.look_ok h T.keyed ht hz (zd := .held z) (zp := []) rfl (T.of k hk)
  rw [enc_at] at hv
  simp only [tok, Option.some.injEq, Prod.mk.injEq, DataW.held.injEq] at hv
  rw [hrun, hv.1, enc_has]
theorem MapV.store (h : MapV P kt w f b l) (T : KeyT P kt K ok) (ht : P.underlying t = some (.map kt e)) (hn : l.length < maxLen) (k : K) (v : V) (hk : ok k) (hf : ∀ x ∈ l, x.1 ≠ k → f' x.1 x.2 = f x.1 x.2) :
    ∃ w', (Instr.mapUpdate t (.map (some b)) (Key.kv k) (f' k v)).run P w = .ok () w' ∧ MapV P kt w' f' b (aput k v l) ∧ w.mapTurned w' b := by
  obtain ⟨w', h1, h2, h3⟩ := World.ownsMap.store h T.keyed ht hn (d := .held (f' k v)) (ps := []) (T.of k hk) rfl
  refine ⟨w', h1, ?_, h3⟩
  refine MapV.exact (n := l.length + 1) ?_
  have e1 : enc f' (aput k v l) = DataW.insert (Key.lit k, .held (f' k v)) ((enc f l).filter fun p => !p.1.sameKey (Key.lit k)) := by
    rw [aput, enc_ains, ← enc_adel f k l, enc_congr f' f (adel k l) fun x hx => hf x (mem_adel.1 hx).1 (mem_adel.1 hx).2]
  rw [e1]
  exact h2
theorem MapV.drop (h : MapV P kt w f b l) (T : KeyT P kt K ok) (ht : P.underlying t = some (.map kt e)) (k : K) (hk : ok k) (ty : TypeId) :
    ∃ w', (Builtin.delete_ #[t, kt] ty #[.map (some b), Key.kv k]).run P w = .ok (.tuple #[]) w' ∧ MapV P kt w' f b (adel k l) ∧ w.mapTurned w' b := by
  obtain ⟨w', h1, h2, h3⟩ := World.ownsMap.drop h T.keyed ht (T.of k hk) ty
  exact ⟨w', h1, MapV.exact (by rw [enc_del]; exact h2), h3⟩
theorem MapV.len (h : MapV P kt w f b l) (ht : P.underlying t = some (.map kt e)) (ty : TypeId) : (Builtin.len_ #[t] ty #[.map (some b)]).run P w = .ok (.int .i64 l.length) w := by
  have := World.ownsMap.len h ht ty
  rwa [enc_len] at this

/-- Block r of w is an iterator over the map in block b: what is left; how many. -/
def Iter (P : Program) (kt : TypeId) (w : World) (f : K → V → Value) (b r : Nat) (l : List (K × V)) (left : Lit → Bool) (cnt : Nat) : Prop := w.ranges P kt tok b r l.length (.map (enc f l)) left cnt

theorem MapV.range (h : MapV P kt w f b l) (T : KeyT P kt K ok) (ht : P.underlying t = some (.map kt e)) :
    ∃ w' left, (Instr.range t (.map (some b))).run P w = .ok (.pointer (some ⟨w.heap.size, 0, none⟩)) w' ∧ Iter P kt w' f b w.heap.size l left l.length ∧ (∀ x ∈ l, left (Key.lit x.1) = true) ∧ Pu w w' ∧ w'.heap.size = w.heap.size + 1 := by
  obtain ⟨w', h1, h2, h3, h4⟩ := World.ownsMap.range h T.keyed ht
  rw [enc_len] at h2
  refine ⟨w', _, h1, h2, fun x hx => ?_, (Below.refl _ _).grown h3 (Nat.le_refl _) (fun k hk => by cases hk), h4⟩
  rw [enc_has]
  cases hg : aget x.1 l with
  | none => exact absurd rfl (aget_none.1 hg x hx)
  | some u => rfl
theorem Iter.map {r : Nat} {left : Lit → Bool} {cnt : Nat} (h : Iter P kt w f b r l left cnt) : MapV P kt w f b l := World.ranges.owns h
theorem Iter.next {r : Nat} {left : Lit → Bool} {cnt : Nat} (h : Iter P kt w f b r l left cnt) (T : KeyT P kt K ok) (ty : TypeId) :
    (cnt = 0 ∧ (∀ kl, left kl = false) ∧ (Instr.next (.pointer (some ⟨r, 0, none⟩)) false ty).run P w = .ok (.tuple #[.bool false]) w) ∨
    ∃ k v w' cnt', (k, v) ∈ l ∧ left (Key.lit k) = true ∧ (Instr.next (.pointer (some ⟨r, 0, none⟩)) false ty).run P w = .ok (.tuple #[.bool true, Key.kv k, f k v]) w' ∧
      Iter P kt w' f b r l (fun x => left x && !x.sameKey (Key.lit k)) cnt' ∧ cnt' < cnt ∧ Fr (fun x => x = r) w w' ∧ w'.heap.size = w.heap.size ∧ (Instr.entry (.pointer (some ⟨r, 0, none⟩))).run P w' = .ok (.tuple #[Key.kv k, f k v]) w' := by
  rcases World.ranges.next h T.keyed ty with h1 | ⟨key, v, kl, y, w', cnt', h1, h2, h3, h4, h5, h6, h7, h8, h9, h10⟩
  · exact .inl h1
  · right
    simp only [tok, Option.some.injEq] at h3
    subst h3
    have hex : ∃ k u, aget k l = some u ∧ kl = Key.lit k := by
      have h4' := h4 (.held (.bool true))
      have h4'' := h4 (.held (.bool false))
      simp only [DataW.atKey] at h4' h4''
      cases hfd : (enc f l).find? (fun p => p.1.sameKey kl) with
      | none =>
        rw [hfd] at h4' h4''
        simp only [DataW.held.injEq] at h4' h4''
        rw [← h4''] at h4'; cases h4'
      | some p =>
        have hm := List.mem_of_find?_eq_some hfd
        have hs := List.find?_some hfd
        obtain ⟨x, hx, rfl⟩ := List.mem_map.1 hm
        cases hg : aget x.1 l with
        | none => exact absurd rfl (aget_none.1 hg x hx)
        | some u => exact ⟨x.1, u, hg, Key.same_inv _ _ hs⟩
    obtain ⟨k, u, hg, rfl⟩ := hex
    have hkey := T.inv _ _ h1
    subst hkey
    have := h4 (.held (.bool true))
    rw [enc_at, hg] at this
    simp only [Option.elim_some, DataW.held.injEq] at this
    subst this
    exact ⟨k, u, w', cnt', aget_mem hg, h2, h5, h6, h7, ⟨h8.os, h8.tape, h8.output, h8.size, fun i hi hn => h8.block i hi (fun e => hn (by simpa using e))⟩, h9, h10⟩
theorem Iter.lt {r : Nat} {left : Lit → Bool} {cnt : Nat} (h : Iter P kt w f b r l left cnt) : r < w.heap.size := World.ranges.lt h
theorem Iter.ne {r : Nat} {left : Lit → Bool} {cnt : Nat} (h : Iter P kt w f b r l left cnt) : r ≠ b := World.ranges.ne h
theorem Iter.left_eq {r : Nat} {left : Lit → Bool} {cnt : Nat} (h : Iter P kt w f b r l left cnt) : w.rangeLeft b r = cnt := World.ranges.left_eq h
theorem Iter.fr {M : Nat → Prop} {r : Nat} {left : Lit → Bool} {cnt : Nat} (h : Iter P kt w f b r l left cnt) (hp : Fr M w w') (hb : ¬ M b) (hr : ¬ M r) : Iter P kt w' f b r l left cnt := by
  have h1 := h.map.lt
  have h2 := h.lt
  obtain ⟨es, clock, since, seen, c0, hb0, F, hs, hD, hr0, rest⟩ := h
  exact ⟨es, clock, since, seen, c0, (hp.keep b h1 hb).trans hb0, F, hs, hD, (hp.keep r h2 hr).trans hr0, rest⟩
theorem Iter.congr {r : Nat} {left : Lit → Bool} {cnt : Nat} (h : Iter P kt w f b r l left cnt) (hf : ∀ x ∈ l, f x.1 x.2 = f' x.1 x.2) : Iter P kt w f' b r l left cnt := by
  unfold Iter; rw [← enc_congr f f' l hf]; exact h
theorem Iter.drop {r : Nat} {left : Lit → Bool} {cnt : Nat} (h : Iter P kt w f b r l left cnt) (T : KeyT P kt K ok) (ht : P.underlying t = some (.map kt e)) (k : K) (hk : ok k) (ty : TypeId) :
    ∃ w' cnt', (Builtin.delete_ #[t, kt] ty #[.map (some b), Key.kv k]).run P w = .ok (.tuple #[]) w' ∧ Iter P kt w' f b r (adel k l) (fun x => left x && !x.sameKey (Key.lit k)) cnt' ∧ cnt' ≤ cnt ∧ w.mapTurned w' b := by
  obtain ⟨w', cnt', h1, h2, h3, h4⟩ := World.ranges.drop h T.keyed ht (T.of k hk) ty
  refine ⟨w', cnt', h1, ?_, h3, h4⟩
  rw [← enc_del] at h2
  obtain ⟨es, clock, since, seen, c0, hb0, F, hs, hD, hr0, rest⟩ := h2
  refine ⟨es, clock, since, seen, c0, hb0, F, ?_, hD, hr0, rest⟩
  simp only [DataW.map.injEq] at hD
  have := congrArg List.length hD
  rw [length_sorted] at this
  simp [enc] at this
  omega
end
end Go.Av

/- Chapter 18's part: what is right of every one; sums over what an iterator has left. -/
namespace Go.Av

/-- A number that an int64 holds. -/
def i64 (n : Int) : Prop := (Lit.int .i64 n).wf = true

structure PartOk (N : Nat) (P : PartD) : Prop where
  room : P.tree.room = P.room
  tree : TreeOk P.tree
  locks : LocksOk P.locks
  lockn : P.locks.length ≤ 1000 * N
  wait : asorted P.wait
  waitn : P.wait.length ≤ N
  dec : asorted P.decided
  decn : P.decided.length ≤ N
  clo : asorted P.closed
  clon : P.closed.length ≤ N
  opn : ∀ x ∈ P.wait, x.2.ops.length ≤ 16
  opg : ∀ x ∈ P.wait, ∀ o ∈ x.2.ops, Av.good o.path = true
  sess : ∀ x ∈ P.wait, i64 x.2.sess
  z0 : 0 ≤ P.zxid
  z1 : P.zxid ≤ N

section
variable {V : Type}
/-- What is left to be told. -/
def sumL (f : V → Nat) (left : Lit → Bool) (W : List (Int × V)) : Nat := (W.map fun x => if left (Key.lit x.1) then f x.2 else 0).sum
theorem sumL_all {f : V → Nat} {left : Lit → Bool} {W : List (Int × V)} (h : ∀ x ∈ W, left (Key.lit x.1) = true) : sumL f left W = (W.map fun x => f x.2).sum := by
  unfold sumL; congr 1; apply List.map_congr_left; intro x hx; rw [if_pos (h x hx)]
theorem sumL_none {f : V → Nat} {left : Lit → Bool} {W : List (Int × V)} (h : ∀ x ∈ W, left (Key.lit x.1) = false) : sumL f left W = 0 := by
  unfold sumL
  induction W with
  | nil => rfl
  | cons a r ih => simp only [List.map_cons, List.sum_cons, h a (by simp)]; rw [ih fun x hx => h x (by simp [hx])]; rfl
theorem sumL_step {f : V → Nat} {left : Lit → Bool} {W : List (Int × V)} (hs : asorted W) {k : Int} {v : V} (hm : (k, v) ∈ W) (hl : left (Key.lit k) = true) :
    sumL f left W = f v + sumL f (fun x => left x && !x.sameKey (Key.lit k)) W := by
  unfold sumL
  induction W with
  | nil => cases hm
  | cons a r ih =>
    simp only [List.map_cons, List.sum_cons]
    have hr : asorted r := (List.pairwise_cons.1 hs).2
    have ha := (List.pairwise_cons.1 hs).1
    rcases List.mem_cons.1 hm with rfl | hm
    · have e1 : (Key.lit k : Lit).sameKey (Key.lit k) = true := by rw [Key.same_lit]; simp
      simp only [hl, if_true, e1, Bool.not_true, Bool.and_false, Bool.false_eq_true, if_false, Nat.zero_add]
      congr 2
      apply List.map_congr_left
      intro x hx
      have hne : x.1 ≠ k := fun e => by have := ha x hx; simp only [e, Key.irrefl] at this; cases this
      have e2 : (Key.lit x.1 : Lit).sameKey (Key.lit k) = false := by rw [Key.same_lit]; simpa using hne
      simp [e2]
    · have hne : a.1 ≠ k := fun e => by have := ha _ hm; simp only [e, Key.irrefl] at this; cases this
      have e2 : (Key.lit a.1 : Lit).sameKey (Key.lit k) = false := by rw [Key.same_lit]; simpa using hne
      rw [ih hr hm]
      simp only [e2, Bool.not_false, Bool.and_true]
      omega
end

theorem createsN_le (l : List OpD) : createsN l ≤ l.length := List.countP_le_length
theorem wantsX_le {x : PrepD} (h : x.ops.length ≤ 16) : wantsX x ≤ 16 := by
  unfold wantsX; split
  · omega
  · exact Nat.le_trans (createsN_le _) h
theorem wantedW_le {W : List (Int × PrepD)} (h : ∀ x ∈ W, x.2.ops.length ≤ 16) : wantedW W ≤ 16 * W.length := by
  unfold wantedW
  induction W with
  | nil => simp
  | cons a r ih =>
    have := ih fun x hx => h x (by simp [hx])
    have := wantsX_le (h a (by simp))
    simp only [List.map_cons, List.sum_cons, List.length_cons]; omega

theorem createsN_succ {l : List OpD} {k : Nat} (hk : k < l.length) : createsN (l.take (k + 1)) = createsN (l.take k) + if isCreate l[k] then 1 else 0 := by
  unfold createsN
  rw [List.take_succ_eq_append_getElem hk, List.countP_append]
  simp [List.countP_cons]
theorem firstC_succ {l : List OpD} {k : Nat} (hk : k < l.length) : firstC (l.take (k + 1)) = if isCreate l[k] = true ∧ createsN (l.take k) = 0 then k else firstC (l.take k) := by
  unfold firstC createsN
  rw [List.take_succ_eq_append_getElem hk, List.findIdx?_append]
  have hlen : (l.take k).length = k := by simp; omega
  cases hf : (l.take k).findIdx? isCreate with
  | some i =>
    have : ¬ (l.take k).countP isCreate = 0 := by
      rw [List.countP_eq_zero]
      intro h
      obtain ⟨hi, h1, _⟩ := List.findIdx?_eq_some_iff_getElem.1 hf
      exact h _ (List.getElem_mem hi) h1
    simp [this]
  | none =>
    have : (l.take k).countP isCreate = 0 := by
      rw [List.countP_eq_zero]
      rw [List.findIdx?_eq_none_iff] at hf
      intro a ha; simp [hf a ha]
    by_cases hc : isCreate l[k] = true
    · simp [this, hc, List.findIdx?_cons, hlen]
    · simp [hc, List.findIdx?_cons]

variable {P : PartD}
theorem PartOk.up {N M : Nat} (h : PartOk N P) (hM : N ≤ M) : PartOk M P :=
  ⟨h.room, h.tree, h.locks, by have := h.lockn; omega, h.wait, by have := h.waitn; omega, h.dec, by have := h.decn; omega, h.clo, by have := h.clon; omega, h.opn, h.opg, h.sess, h.z0, by have := h.z1; omega⟩
theorem PartOk.count {N : Nat} (h : PartOk N P) : PartOk (N + 1) { P with zxid := P.zxid + 1 } := by
  have k := h.up (Nat.le_succ N)
  exact ⟨k.room, k.tree, k.locks, k.lockn, k.wait, k.waitn, k.dec, k.decn, k.clo, k.clon, k.opn, k.opg, k.sess, by have := h.z0; show 0 ≤ P.zxid + 1; omega, by have := h.z1; show P.zxid + 1 ≤ _; omega⟩


theorem takeS_ok {L : LocksD} (h : LocksOk L) (who : Int) (l : List Str) (hl : L.length + l.length ≤ 1000000) : LocksOk (takeS L who l) ∧ (takeS L who l).length ≤ L.length + l.length := by
  unfold takeS
  split
  · exact ⟨h, by omega⟩
  · rename_i hw
    refine takeL_ok h who l (fun p hp => ?_) hl
    rw [wrongP, Option.or_eq_none_iff] at hw
    have := List.find?_eq_none.1 hw.1 p hp
    simpa using this
theorem wantsO_two (o : OpD) : (wantsO o).length ≤ 2 := by
  unfold wantsO; split
  · split <;> simp
  · simp
theorem takeOps_ok {L : LocksD} (h : LocksOk L) (id : Int) (l : List OpD) (hl : L.length + 2 * l.length ≤ 1000000) : LocksOk (takeOps L id l) ∧ (takeOps L id l).length ≤ L.length + 2 * l.length := by
  induction l generalizing L with
  | nil => exact ⟨h, by simp [takeOps]⟩
  | cons o r ih =>
    have h2 := wantsO_two o
    simp only [List.length_cons] at hl
    obtain ⟨a, b⟩ := takeS_ok h id (wantsO o) (by omega)
    obtain ⟨c, d⟩ := ih a (by omega)
    refine ⟨c, ?_⟩
    show (takeOps (takeS L id (wantsO o)) id r).length ≤ _
    simp only [List.length_cons]; omega
theorem takeOps_succ (L : LocksD) (id : Int) {l : List OpD} {k : Nat} (hk : k < l.length) : takeOps L id (l.take (k + 1)) = takeS (takeOps L id (l.take k)) id (wantsO l[k]) := by
  unfold takeOps
  rw [List.take_succ_eq_append_getElem hk, List.foldl_append]; rfl

end Go.Av
