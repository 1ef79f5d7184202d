/- Part 11 of a proof in parts: what the code of these packages does, and plain facts about it (StableB, StableC, StableD, Stable, Purge, Part, PartR, PartS, PartB, PartC). No condition of its own. -/
import Derived.Test.YtmigbgfgnhkmnaaGreatDoorZx10
import Derived.IntWalk
/- slices.insertionSortCmpFunc at strings, by the closure of multi.Purge: it permutes. -/
namespace Go.Proofs.YtmigbgfgnhkmnaaGreatDoor
open Go.RowKit Go.Av

variable {w w' : World}

/-- What is asked of the comparison. -/
structure CmpOk (G : World → Prop) (g : Nat) : Prop where
  call : ∀ (x y : Str) (w : World), x.length ≤ 1000000 → y.length ≤ 1000000 → G w → Calls Tryz.prog 97 #[.string (mkB x), .string (mkB y)] w (IntR w)
  fr : ∀ w w' : World, G w → Fr (fun b => b = g) w w' → G w'

set_option maxHeartbeats 1000000 in
set_option maxRecDepth 100000 in
theorem insertion_p {G : World → Prop} (g off cap N : Nat) (hc : CmpOk G g) (l : List Str) (hs : ∀ s ∈ l, s.length ≤ 1000000) (hN : l.length = N) (a b : Int) (w0 w : World) (hG : G w0) (h : PermS w0 g off l w) (ha0 : 0 ≤ a) (hab : a ≤ b) (hb : b ≤ N) (hl : N ≤ 1000000) :
    Calls Tryz.prog 160 #[.slice (some ⟨g, off, none⟩) N cap, .int .i64 a, .int .i64 b, .func (.func 97) #[] #[]] w fun e w' => e = .returned (.tuple #[]) ∧ PermS w0 g off l w' := by
  have H := Lib.hid h; clear h
  have HN := Lib.hid hN; clear hN
  have HC := Lib.hid hc; clear hc
  have HS := Lib.hid hs; clear hs
  have HG := Lib.hid hG; clear hG
  go_enter Tryz.func160, Tryz.ntmps160
  go_wp2
  go_loopw [8] (fun vi wr => ∃ i : Int, vi = .int .i64 i ∧ a + 1 ≤ i ∧ i ≤ 1000001 ∧ Hid (PermS w0 g off l wr)) (fun vi _ => (b - intOf vi).toNat)
  case atStart => exact ⟨a + 1, rfl, by omega, by omega, H⟩
  case round =>
    obtain ⟨i, rfl, i0, i1, HP⟩ := hrel
    by_cases hib : i < b
    · go_wp2
      go_loopw [9] (fun vj wr => ∃ j : Int, vj = .int .i64 j ∧ a ≤ j ∧ j ≤ i ∧ Hid (PermS w0 g off l wr)) (fun vj _ => (intOf vj).toNat)
      case atStart => exact ⟨i, rfl, by omega, by omega, HP⟩
      case round =>
        clear HP
        obtain ⟨j, rfl, j0, j1, HP⟩ := hrel
        by_cases hja : a < j
        · obtain ⟨l', hp, hr, hf⟩ := HP.out
          have hlen : l'.length = N := hp.length_eq.trans HN.out
          obtain ⟨k, rfl⟩ := Int.eq_ofNat_of_zero_le (show 0 ≤ j by omega)
          have ia : k < l'.length := by omega
          have ib : k - 1 < l'.length := by omega
          have ra := hr.at k ia
          have rb := hr.at (k - 1) ib
          obtain ⟨xa, hxa⟩ : ∃ x, x = l'[k]'ia := ⟨_, rfl⟩
          obtain ⟨xb, hxb⟩ : ∃ x, x = l'[k - 1]'ib := ⟨_, rfl⟩
          have hla : xa.length ≤ 1000000 := HS.out _ (hp.subset (by rw [hxa]; exact List.getElem_mem _))
          have hlb : xb.length ≤ 1000000 := HS.out _ (hp.subset (by rw [hxb]; exact List.getElem_mem _))
          have Hsw := Lib.hid (fun (w1 : World) (hb : Pu wr w1) => PermS.swap hp (hr.pu hb) (hf.trans (Fr.of_below (M := fun b => b = g) hb) fun _ _ h => h) k (k - 1) ia ib xa xb hxa hxb)
          have Hg1 := Lib.hid (HC.out.fr _ _ HG.out hf.drew)
          rw [← hxa] at ra
          rw [← hxb] at rb
          obtain ⟨ca, fa⟩ := ra
          obtain ⟨cb, fb⟩ := rb
          have j2 : (0 : Int) ≤ (k : Int) - 1 := by omega
          have j3 : (k : Int) - 1 < (N : Int) := by omega
          have j4 : (k : Int) < (N : Int) := by omega
          have j5 : (1 : Int) ≤ (k : Int) := by omega
          have ej : ((k : Int) - 1).toNat = k - 1 := by omega
          have Hca := Lib.hid ca
          have Hcb := Lib.hid cb
          have hgl : g < wr.heap.size := by
            by_cases hg : g < wr.heap.size
            · exact hg
            · have : wr.heap[g]? = none := Array.getElem?_eq_none (by omega)
              simp [World.cell?, this] at ca
          have Hafter := Lib.hid (fun (w1 : World) (hb : Pu wr w1) => show _ ∧ _ ∧ _ ∧ _ ∧ _ ∧ _ from ⟨((bcell hb).1 g (off + k) hgl).trans ca, ((bcell hb).2 g (off + k) hgl).trans fa, ((bcell hb).1 g (off + (k - 1)) hgl).trans cb, ((bcell hb).2 g (off + (k - 1)) hgl).trans fb, (((hr.pu hb).set k ia xb).at (k - 1) (by simpa using ib)).1, (((hr.pu hb).set k ia xb).at (k - 1) (by simpa using ib)).2⟩)
          clear hxa hxb hlen hp hr hf
          have ew : IntKind.i64.wrap ((k : Int) - 1) = (k : Int) - 1 := IntWalk.i64_in _ (by omega)
          go_wp2
          go_still_tail 14, (by kernel_rfl)
          change wpList _ _ _ _ _ wr.drew
          clear ew
          go_wp2_with (go_at_call 97; refine (HC.out.call xa xb _ hla hlb Hg1.out).mono ?_; rintro e w1 ⟨n, rfl, hb0⟩; have hb1 : Pu wr w1 := ⟨hb0.os, hb0.tape, hb0.output, hb0.size, fun b h => hb0.block b h⟩; clear hb0; obtain ⟨d1, d2, d3, d4, d5, d6⟩ := Hafter.out w1 hb1; have HB1 := Lib.hid hb1; clear hb1)
          · go_region
            go_wp2
            go_roundw
            case rel => exact ⟨(k : Int) - 1, rfl, by omega, by omega, Lib.hid (Hsw.out _ HB1.out)⟩
            case measure => simp [intOf]; omega
          · go_roundw
            case rel => exact ⟨i + 1, rfl, by omega, by omega, Lib.hid (HP.out.pu HB1.out)⟩
            case measure => simp [intOf]; omega
        · have hja2 : decide (a < j) = false := by simpa using hja
          go_wp2
          go_quiet (fail)
          go_wp2
          go_roundw
          case rel => exact ⟨i + 1, rfl, by omega, by omega, Lib.hid (HP.out.drewN _)⟩
          case measure => simp [intOf]; omega
    · go_wp2
      go_end0
      exact ⟨rfl, HP.out⟩

end Go.Proofs.YtmigbgfgnhkmnaaGreatDoor

/- slices.symMergeCmpFunc at strings, by the closure of multi.Purge: it permutes. -/
namespace Go.Proofs.YtmigbgfgnhkmnaaGreatDoor
open Go.RowKit Go.Av

variable {w w' : World}

/-- Two places of the row. -/
theorem PermS.two {g off N : Nat} {l : List Str} {w0 wr : World} (h : PermS w0 g off l wr) (hN : l.length = N) (hs : ∀ s ∈ l, s.length ≤ 1000000) (i j : Nat) (hi : i < N) (hj : j < N) :
    ∃ xa xb : Str, xa.length ≤ 1000000 ∧ xb.length ≤ 1000000 ∧ wr.cell? ⟨g, off + i, none⟩ = some (.string (mkB xa)) ∧ wr.frozen? ⟨g, off + i, none⟩ = false ∧ wr.cell? ⟨g, off + j, none⟩ = some (.string (mkB xb)) ∧ wr.frozen? ⟨g, off + j, none⟩ = false ∧
      (∃ v, (wr.setCell ⟨g, off + i, none⟩ (.string (mkB xb))).cell? ⟨g, off + j, none⟩ = some v) ∧ (wr.setCell ⟨g, off + i, none⟩ (.string (mkB xb))).frozen? ⟨g, off + j, none⟩ = false ∧
      PermS w0 g off l ((wr.setCell ⟨g, off + i, none⟩ (.string (mkB xb))).setCell ⟨g, off + j, none⟩ (.string (mkB xa))).drew := by
  obtain ⟨l', hp, hr, hf⟩ := h
  have hlen : l'.length = N := hp.length_eq.trans hN
  have ia : i < l'.length := by omega
  have ib : j < l'.length := by omega
  have hx := (hr.set i ia l'[j]).at j (by simpa using ib)
  exact ⟨l'[i], l'[j], hs _ (hp.subset (List.getElem_mem _)), hs _ (hp.subset (List.getElem_mem _)), (hr.at i ia).1, (hr.at i ia).2, (hr.at j ib).1, (hr.at j ib).2, ⟨_, hx.1⟩, hx.2, PermS.swap hp hr hf i j ia ib _ _ rfl rfl⟩
theorem CmpOk.at {G : World → Prop} {g off : Nat} {l : List Str} {w0 wr : World} (hc : CmpOk G g) (hG : G w0) (h : PermS w0 g off l wr) : G wr.drew := hc.fr _ _ hG h.fr.drew
theorem PermS.pu_drew {g off : Nat} {l : List Str} {w0 wr w1 : World} (h : PermS w0 g off l wr) (hb0 : Pu wr.drew w1) : PermS w0 g off l w1 :=
  h.pu (w2 := w1) ⟨hb0.os, hb0.tape, hb0.output, hb0.size, fun b h => hb0.block b h⟩

set_option maxHeartbeats 4000000 in
set_option maxRecDepth 100000 in
theorem sym_one {G : World → Prop} (g off cap N : Nat) (hc : CmpOk G g) (l : List Str) (hs : ∀ s ∈ l, s.length ≤ 1000000) (hN : l.length = N) (w0 : World) (hG : G w0) (hl : N ≤ 1000000)
    (a b : Nat) (w : World) (h : PermS w0 g off l w) (hmb : a + 1 < b) (hb : b ≤ N) :
    Calls Tryz.prog 161 #[.slice (some ⟨g, off, none⟩) N cap, .int .i64 a, .int .i64 ((a : Int) + 1), .int .i64 b, .func (.func 97) #[] #[]] w fun e w' => e = .returned (.tuple #[]) ∧ PermS w0 g off l w' := by
  have H := Lib.hid h; clear h
  have HN := Lib.hid hN; clear hN
  have HC := Lib.hid hc; clear hc
  have HS := Lib.hid hs; clear hs
  have HG := Lib.hid hG; clear hG
  have e0 : (((a : Int) + 1 - (a : Int)) == 1) = true := by simp; omega
  have e1 : (a : Int) + 1 - (a : Int) = 1 := by omega
  go_enter Tryz.func161, Tryz.ntmps161
  go_wp2
  clear e0 e1
  go_loopw [10, 11] (fun vi vj wr => ∃ i j : Int, vi = .int .i64 i ∧ vj = .int .i64 j ∧ (a : Int) + 1 ≤ i ∧ i ≤ j ∧ j ≤ b ∧ Hid (PermS w0 g off l wr)) (fun vi vj _ => (intOf vj - intOf vi).toNat)
  case atStart => exact ⟨(a : Int) + 1, b, rfl, rfl, by omega, by omega, by omega, H⟩
  case round =>
    obtain ⟨i, j, rfl, rfl, i0, i1, i2, HP⟩ := hrel
    by_cases hij : i < j
    · have HGr := Lib.hid (HC.out.at HG.out HP.out)
      have b0 : 0 ≤ i + j := by omega
      have b1 : i + j ≤ 9223372036854775807 := by omega
      go_wp2
      generalize hh : (i + j) / 2 = h
      have h0 : i ≤ h := by omega
      have h1 : h < j := by omega
      clear hh b0 b1
      obtain ⟨k, rfl⟩ := Int.eq_ofNat_of_zero_le (show 0 ≤ h by omega)
      obtain ⟨x, y, hx, hy, cx, fx, cy, fy, _⟩ := HP.out.two HN.out HS.out k a (by omega) (by omega)
      have k1 : (k : Int) < (N : Int) := by omega
      have a1 : (a : Int) < (N : Int) := by omega
      go_still_tail 9, (by kernel_rfl)
      change wpList _ _ _ _ _ wr.drew
      go_wp2_with (go_at_call 97; refine (HC.out.call _ _ _ hx hy HGr.out).mono ?_; rintro e w1 ⟨n, rfl, hb0⟩; have hP1 := HP.out.pu_drew hb0; clear hb0; have HP1 := Lib.hid hP1; clear hP1)
      · go_roundw
        case rel => exact ⟨(k : Int) + 1, j, rfl, rfl, by omega, by omega, by omega, HP1⟩
        case measure => simp [intOf]; omega
      · go_roundw
        case rel => exact ⟨i, k, rfl, rfl, by omega, by omega, by omega, HP1⟩
        case measure => simp [intOf]; omega
    · go_wp2
      go_loopw [13] (fun vk wr => ∃ k : Nat, vk = .int .i64 k ∧ a ≤ k ∧ k ≤ b ∧ Hid (PermS w0 g off l wr)) (fun vk _ => (b - (intOf vk).toNat))
      case atStart => exact ⟨a, rfl, by omega, by omega, HP⟩
      case round =>
        clear HP
        obtain ⟨k, rfl, k0, k1, HP⟩ := hrel
        by_cases hki : (k : Int) < i - 1
        · obtain ⟨x, y, hx, hy, cx, fx, cy, fy, ⟨v, cc⟩, fc, hsw⟩ := HP.out.two HN.out HS.out k (k + 1) (by omega) (by omega)
          have Hsw := Lib.hid hsw
          have k2 : (k : Int) < (N : Int) := by omega
          have k3 : (k : Int) + 1 < (N : Int) := by omega
          have k4 : (0 : Int) ≤ (k : Int) + 1 := by omega
          have ek : ((k : Int) + 1).toNat = k + 1 := by omega
          clear hsw
          go_wp2
          go_region
          go_wp2
          go_roundw
          case rel => exact ⟨k + 1, by go_num, by omega, by omega, Hsw⟩
          case measure => simp [intOf]; omega
        · go_wp2
          (try simp only [Exit.inBlock, Exit.then])
          refine bodyPost_ret (results_none rfl _ _ _) rfl ?_
          exact ⟨rfl, HP.out⟩

set_option maxHeartbeats 4000000 in
set_option maxRecDepth 100000 in
theorem sym_last {G : World → Prop} (g off cap N : Nat) (hc : CmpOk G g) (l : List Str) (hs : ∀ s ∈ l, s.length ≤ 1000000) (hN : l.length = N) (w0 : World) (hG : G w0) (hl : N ≤ 1000000)
    (a m : Nat) (w : World) (h : PermS w0 g off l w) (ham : a + 1 < m) (hb : m + 1 ≤ N) :
    Calls Tryz.prog 161 #[.slice (some ⟨g, off, none⟩) N cap, .int .i64 a, .int .i64 m, .int .i64 ((m : Int) + 1), .func (.func 97) #[] #[]] w fun e w' => e = .returned (.tuple #[]) ∧ PermS w0 g off l w' := by
  have H := Lib.hid h; clear h
  have HN := Lib.hid hN; clear hN
  have HC := Lib.hid hc; clear hc
  have HS := Lib.hid hs; clear hs
  have HG := Lib.hid hG; clear hG
  have e2 : (((m : Int) - (a : Int)) == 1) = false := by simp; omega
  have e0 : (((m : Int) + 1 - (m : Int)) == 1) = true := by simp; omega
  have e1 : (m : Int) + 1 - (m : Int) = 1 := by omega
  go_enter Tryz.func161, Tryz.ntmps161
  go_wp2
  clear e0 e1 e2
  go_loopw [14, 15] (fun vi vj wr => ∃ i j : Int, vi = .int .i64 i ∧ vj = .int .i64 j ∧ (a : Int) ≤ i ∧ i ≤ j ∧ j ≤ m ∧ Hid (PermS w0 g off l wr)) (fun vi vj _ => (intOf vj - intOf vi).toNat)
  case atStart => exact ⟨a, m, rfl, rfl, by omega, by omega, by omega, H⟩
  case round =>
    obtain ⟨i, j, rfl, rfl, i0, i1, i2, HP⟩ := hrel
    by_cases hij : i < j
    · have HGr := Lib.hid (HC.out.at HG.out HP.out)
      have b0 : 0 ≤ i + j := by omega
      have b1 : i + j ≤ 9223372036854775807 := by omega
      go_wp2
      generalize hh : (i + j) / 2 = h
      have h0 : i ≤ h := by omega
      have h1 : h < j := by omega
      clear hh b0 b1
      obtain ⟨k, rfl⟩ := Int.eq_ofNat_of_zero_le (show 0 ≤ h by omega)
      obtain ⟨x, y, hx, hy, cx, fx, cy, fy, _⟩ := HP.out.two HN.out HS.out m k (by omega) (by omega)
      have k1 : (k : Int) < (N : Int) := by omega
      have a1 : (m : Int) < (N : Int) := by omega
      go_still_tail 9, (by kernel_rfl)
      change wpList _ _ _ _ _ wr.drew
      go_wp2_with (go_at_call 97; refine (HC.out.call _ _ _ hx hy HGr.out).mono ?_; rintro e w1 ⟨n, rfl, hb0⟩; have hP1 := HP.out.pu_drew hb0; clear hb0; have HP1 := Lib.hid hP1; clear hP1)
      all_goals first
        | (go_roundw
           case rel => exact ⟨(k : Int) + 1, j, rfl, rfl, by omega, by omega, by omega, HP1⟩
           case measure => simp [intOf]; omega)
        | (go_roundw
           case rel => exact ⟨i, k, rfl, rfl, by omega, by omega, by omega, HP1⟩
           case measure => simp [intOf]; omega)
    · go_wp2
      go_loopw [17] (fun vk wr => ∃ k : Nat, vk = .int .i64 k ∧ a ≤ k ∧ k ≤ m ∧ Hid (PermS w0 g off l wr)) (fun vk _ => (intOf vk).toNat)
      case atStart => exact ⟨m, rfl, by omega, by omega, HP⟩
      case round =>
        clear HP
        obtain ⟨k, rfl, k0, k1, HP⟩ := hrel
        by_cases hki : i < (k : Int)
        · obtain ⟨x, y, hx, hy, cx, fx, cy, fy, ⟨v, cc⟩, fc, hsw⟩ := HP.out.two HN.out HS.out k (k - 1) (by omega) (by omega)
          have Hsw := Lib.hid hsw
          have k2 : (k : Int) < (N : Int) := by omega
          have k3 : (k : Int) - 1 < (N : Int) := by omega
          have k4 : (0 : Int) ≤ (k : Int) - 1 := by omega
          have k5 : (1 : Int) ≤ (k : Int) := by omega
          have ek : ((k : Int) - 1).toNat = k - 1 := by omega
          clear hsw
          go_wp2
          go_region
          go_wp2
          go_roundw
          case rel => exact ⟨k - 1, (by rw [show ((k : Int) - 1) = ((k - 1 : Nat) : Int) by omega]), by omega, by omega, Hsw⟩
          case measure => simp [intOf]; omega
        · go_wp2
          (try simp only [Exit.inBlock, Exit.then])
          refine bodyPost_ret (results_none rfl _ _ _) rfl ?_
          exact ⟨rfl, HP.out⟩

end Go.Proofs.YtmigbgfgnhkmnaaGreatDoor

/- slices.symMergeCmpFunc, stableCmpFunc, SortStableFunc at strings, by the closure of multi.Purge: they permute. -/
namespace Go.Proofs.YtmigbgfgnhkmnaaGreatDoor
open Go.RowKit Go.Av

variable {w w' : World}

set_option maxHeartbeats 8000000 in
set_option maxRecDepth 100000 in
theorem sym_p {G : World → Prop} (g off cap N : Nat) (hc : CmpOk G g) (l : List Str) (hs : ∀ s ∈ l, s.length ≤ 1000000) (hN : l.length = N) (w0 : World) (hG : G w0) (hl : N ≤ 1000000) (n : Nat) :
    ∀ (a m b : Int) (w : World), PermS w0 g off l w → b - a ≤ n → 0 ≤ a → a < m → m < b → b ≤ N →
    Calls Tryz.prog 161 #[.slice (some ⟨g, off, none⟩) N cap, .int .i64 a, .int .i64 m, .int .i64 b, .func (.func 97) #[] #[]] w fun e w' => e = .returned (.tuple #[]) ∧ PermS w0 g off l w' := by
  induction n with
  | zero => intro a m b w h h1; omega
  | succ n ih =>
    intro a m b w h hn ha0 ham hmb hb
    by_cases h1 : m = a + 1
    · subst h1
      obtain ⟨a, rfl⟩ := Int.eq_ofNat_of_zero_le ha0
      obtain ⟨b, rfl⟩ := Int.eq_ofNat_of_zero_le (show 0 ≤ b by omega)
      exact sym_one g off cap N hc l hs hN w0 hG hl a b w h (by omega) (by omega)
    by_cases h2 : b = m + 1
    · subst h2
      obtain ⟨a, rfl⟩ := Int.eq_ofNat_of_zero_le ha0
      obtain ⟨m, rfl⟩ := Int.eq_ofNat_of_zero_le (show 0 ≤ m by omega)
      exact sym_last g off cap N hc l hs hN w0 hG hl a m w h (by omega) (by omega)
    have H := Lib.hid h; clear h
    have HN := Lib.hid hN; clear hN
    have HC := Lib.hid hc; clear hc
    have HS := Lib.hid hs; clear hs
    have HG := Lib.hid hG; clear hG
    have IH := Lib.hid ih; clear ih
    have e1 : ((m - a) == 1) = false := by simp; omega
    have e2 : ((b - m) == 1) = false := by simp; omega
    have b0 : 0 ≤ a + b := by omega
    have b1 : a + b ≤ 9223372036854775807 := by omega
    have b2 : a + b ≤ 2000000 := by omega
    have b3 : (a + b) / 2 ≤ 1000000 := by omega
    have b4 : 0 ≤ (a + b) / 2 := by omega
    obtain ⟨mid, hmid⟩ : ∃ mid, mid = (a + b) / 2 := ⟨_, rfl⟩
    have d1 : a < mid := by omega
    have d2 : mid < b := by omega
    have d3 : 2 * mid ≤ a + b := by omega
    have d4 : a + b ≤ 2 * mid + 1 := by omega
    have HM := Lib.hid hmid.symm; clear hmid
    by_cases hm : (a + b) / 2 < m
    all_goals
      go_enter Tryz.func161, Tryz.ntmps161
      go_wp2
      rw [HM.out] at *
      have hlh : ∃ lo hi : Int, Hid ((if mid < m then mid + m - b else a) = lo ∧ (if mid < m then mid else m) = hi) ∧ a ≤ lo ∧ lo ≤ hi ∧ hi ≤ N ∧ mid + m - lo ≤ b ∧ hi ≤ mid + m ∧ hi ≤ b := by
        by_cases q : mid < m
        · exact ⟨_, _, Lib.hid ⟨rfl, rfl⟩, by rw [if_pos q]; omega, by rw [if_pos q, if_pos q]; omega, by rw [if_pos q]; omega, by rw [if_pos q]; omega, by rw [if_pos q]; omega, by rw [if_pos q]; omega⟩
        · exact ⟨_, _, Lib.hid ⟨rfl, rfl⟩, by rw [if_neg q]; omega, by rw [if_neg q, if_neg q]; omega, by rw [if_neg q]; omega, by rw [if_neg q]; omega, by rw [if_neg q]; omega, by rw [if_neg q]; omega⟩
      obtain ⟨lo, hi, HLH, l1, l2, l3, l4, l5, l6⟩ := hlh
      clear e1 e2 b0 b1 b3 b4

      go_loopw [20, 21] (fun vi vj wr => ∃ i j : Int, vi = .int .i64 i ∧ vj = .int .i64 j ∧ lo ≤ i ∧ i ≤ j ∧ j ≤ hi ∧ Hid (PermS w0 g off l wr)) (fun vi vj _ => (intOf vj - intOf vi).toNat)
      case atStart =>
        have := HLH.out
        refine ⟨lo, hi, ?_, ?_, by omega, by omega, by omega, H⟩
        · rw [← this.1]; first | rw [if_pos hm] | rw [if_neg (show ¬ mid < m by omega)]
        · rw [← this.2]; first | rw [if_pos hm] | rw [if_neg (show ¬ mid < m by omega)]
      case round =>
        clear HLH
        obtain ⟨i, j, rfl, rfl, i0, i1, i2, HP⟩ := hrel
        by_cases hij : i < j
        · have HGr := Lib.hid (HC.out.at HG.out HP.out)
          have b0 : 0 ≤ i + j := by omega
          have b1 : i + j ≤ 9223372036854775807 := by omega
          go_wp2
          generalize hh : (i + j) / 2 = h
          have h0 : i ≤ h := by omega
          have h1 : h < j := by omega
          clear hh b0 b1
          obtain ⟨x, y, hx, hy, cx, fx, cy, fy, _⟩ := HP.out.two HN.out HS.out (mid + m - 1 - h).toNat h.toNat (by omega) (by omega)
          have k1 : h < (N : Int) := by omega
          have k2 : 0 ≤ h := by omega
          have a1 : mid + m - 1 - h < (N : Int) := by omega
          have a2 : 0 ≤ mid + m - 1 - h := by omega
          have a3 : h ≤ mid + m - 1 := by omega
          have ew : IntKind.i64.wrap (mid + m - 1 - h) = mid + m - 1 - h := IntWalk.i64_in _ (by omega)
          go_still_tail 11, (by kernel_rfl)
          change wpList _ _ _ _ _ wr.drew
          clear ew
          go_wp2_with (go_at_call 97; refine (HC.out.call _ _ _ hx hy HGr.out).mono ?_; rintro e w1 ⟨n1, rfl, hb0⟩; have hP1 := HP.out.pu_drew hb0; clear hb0; have HP1 := Lib.hid hP1; clear hP1)
          all_goals first
            | (go_roundw
               case rel => exact ⟨h + 1, j, rfl, rfl, by omega, by omega, by omega, HP1⟩
               case measure => simp [intOf]; omega)
            | (go_roundw
               case rel => exact ⟨i, h, rfl, rfl, by omega, by omega, by omega, HP1⟩
               case measure => simp [intOf]; omega)
        · go_wp2_with (first
            | (go_at_call 192; refine (rotate_p g off cap N l HN.out _ _ _ _ w0 _ HP.out (by omega) (by omega) (by omega) (by omega) hl).mono ?_; rintro e w1 ⟨rfl, hP1⟩; replace HP : Hid (PermS w0 g off l w1) := Lib.hid hP1; clear hP1)
            | (go_at_call 161; refine (IH.out _ _ _ _ HP.out (by omega) (by omega) (by omega) (by omega) (by omega)).mono ?_; rintro e w1 ⟨rfl, hP1⟩; replace HP : Hid (PermS w0 g off l w1) := Lib.hid hP1; clear hP1))
          all_goals
            go_end0
            exact ⟨rfl, HP.out⟩

set_option maxHeartbeats 8000000 in
set_option maxRecDepth 100000 in
theorem stable_p {G : World → Prop} (g off cap N : Nat) (hc : CmpOk G g) (l : List Str) (hs : ∀ s ∈ l, s.length ≤ 1000000) (hN : l.length = N) (w0 : World) (hG : G w0) (hl : N ≤ 1000000) (w : World) (h : PermS w0 g off l w) :
    Calls Tryz.prog 128 #[.slice (some ⟨g, off, none⟩) N cap, .int .i64 N, .func (.func 97) #[] #[]] w fun e w' => e = .returned (.tuple #[]) ∧ PermS w0 g off l w' := by
  have H := Lib.hid h; clear h
  have HN := Lib.hid hN; clear hN
  have HC := Lib.hid hc; clear hc
  have HS := Lib.hid hs; clear hs
  have HG := Lib.hid hG; clear hG
  go_enter Tryz.func128, Tryz.ntmps128
  go_wp2
  go_loopw [7, 8] (fun va vb wr => ∃ a : Int, va = .int .i64 a ∧ vb = .int .i64 (a + 20) ∧ 0 ≤ a ∧ a ≤ N ∧ Hid (PermS w0 g off l wr)) (fun va _ _ => (N - intOf va).toNat)
  case atStart => exact ⟨0, rfl, rfl, by omega, by omega, H⟩
  case round =>
    obtain ⟨a, rfl, rfl, a0, a1, HP⟩ := hrel
    by_cases hb : a + 20 ≤ N
    · go_wp2_with (go_at_call 160; refine (insertion_p g off cap N HC.out l HS.out HN.out _ _ w0 _ HG.out HP.out (by omega) (by omega) (by omega) hl).mono ?_; rintro e w1 ⟨rfl, hP1⟩; have HP1 := Lib.hid hP1; clear hP1)
      go_roundw
      case rel => exact ⟨a + 20, rfl, rfl, by omega, by omega, HP1⟩
      case measure => simp [intOf]; omega
    · go_wp2_with (go_at_call 160; refine (insertion_p g off cap N HC.out l HS.out HN.out _ _ w0 _ HG.out HP.out (by omega) (by omega) (by omega) hl).mono ?_; rintro e w1 ⟨rfl, hP1⟩; have HP1 := Lib.hid hP1; clear hP1)
      clear HP
      go_loopw [6] (fun vs wr => ∃ s : Int, vs = .int .i64 s ∧ 20 ≤ s ∧ s ≤ 2000000 ∧ Hid (PermS w0 g off l wr)) (fun vs _ => (N - intOf vs).toNat)
      case atStart => exact ⟨20, rfl, by omega, by omega, HP1⟩
      case round =>
        clear HP1 a0 a1 hb
        obtain ⟨s, rfl, s0, s1, HP⟩ := hrel
        by_cases hs : s < N
        · go_wp2
          go_loopw [7, 8] (fun va vb wr => ∃ a : Int, va = .int .i64 a ∧ vb = .int .i64 (a + 2 * s) ∧ 0 ≤ a ∧ a ≤ N ∧ Hid (PermS w0 g off l wr)) (fun va _ _ => (N - intOf va).toNat)
          case atStart => exact ⟨0, rfl, (by simp), by omega, by omega, HP⟩
          case round =>
            clear HP
            obtain ⟨a, rfl, rfl, a0, a1, HP⟩ := hrel
            by_cases hb : a + 2 * s ≤ N
            · go_wp2_with (go_at_call 161; refine (sym_p g off cap N HC.out l HS.out HN.out w0 HG.out hl N _ _ _ _ HP.out (by omega) (by omega) (by omega) (by omega) (by omega)).mono ?_; rintro e w1 ⟨rfl, hP1⟩; have HP1 := Lib.hid hP1; clear hP1)
              go_roundw
              case rel => exact ⟨a + 2 * s, rfl, rfl, by omega, by omega, HP1⟩
              case measure => simp [intOf]; omega
            · go_wp2_with (go_at_call 161; refine (sym_p g off cap N HC.out l HS.out HN.out w0 HG.out hl N _ _ _ _ HP.out (by omega) (by omega) (by omega) (by omega) (by omega)).mono ?_; rintro e w1 ⟨rfl, hP1⟩; replace HP : Hid (PermS w0 g off l w1) := Lib.hid hP1; clear hP1)
              all_goals
                go_roundw
                case rel => exact ⟨s * 2, rfl, by omega, by omega, HP⟩
                case measure => simp [intOf]; omega
        · go_wp2
          go_end0
          exact ⟨rfl, HP.out⟩

set_option maxHeartbeats 1000000 in
set_option maxRecDepth 100000 in
theorem sortStable_p {G : World → Prop} (g off cap N : Nat) (hc : CmpOk G g) (l : List Str) (hs : ∀ s ∈ l, s.length ≤ 1000000) (hN : l.length = N) (hl : N ≤ 1000000) (w : World) (hG : G w) (h : RowS w g off l) :
    Calls Tryz.prog 96 #[.slice (some ⟨g, off, none⟩) N cap, .func (.func 97) #[] #[]] w fun e w' => e = .returned (.tuple #[]) ∧ PermS w g off l w' := by
  have H := Lib.hid h; clear h
  have HN := Lib.hid hN; clear hN
  have HC := Lib.hid hc; clear hc
  have HS := Lib.hid hs; clear hs
  have HG := Lib.hid hG; clear hG
  go_enter Tryz.func96, Tryz.ntmps96
  go_wp2_with (go_at_call 128; refine (stable_p g off cap N HC.out l HS.out HN.out w HG.out hl _ (PermS.refl H.out)).mono ?_; rintro e w1 ⟨rfl, hP1⟩; have HP1 := Lib.hid hP1; clear hP1)
  go_end0
  exact ⟨rfl, HP1.out⟩

end Go.Proofs.YtmigbgfgnhkmnaaGreatDoor

/- The comparison of multi.Purge. -/
namespace Go.Proofs.YtmigbgfgnhkmnaaGreatDoor
open Go.RowKit Go.Av

attribute [local go_sem ↓] Go.wp_at_zero Go.wp_at_succ

variable {w w' : World}

set_option maxHeartbeats 1000000 in
set_option maxRecDepth 100000 in
theorem cmpI_any (a b : Int) (w : World) : Calls Tryz.prog 98 #[.int .i64 a, .int .i64 b] w (IntR w) := by
  go_enter Tryz.func98, Tryz.ntmps98
  go_wp2
  all_goals
    go_ret
    exact ⟨_, rfl, Below.refl _ _⟩


set_option maxHeartbeats 1000000 in
set_option maxRecDepth 100000 in
theorem cmpP_any (x y : Str) (w : World) (hx : x.length ≤ 1000000) (hy : y.length ≤ 1000000) (hg : Gl w) : Calls Tryz.prog 97 #[.string (mkB x), .string (mkB y)] w (IntR w) := by
  have Hg := Lib.hid hg; clear hg
  go_enter Tryz.func97, Tryz.ntmps97
  go_wp2_with fail
  refine (parts_any y _ (by omega) Hg.out).mono ?_
  rintro e w1 ⟨v1, rfl, hv1, hb1⟩
  obtain ⟨a1, c1, rfl⟩ := hv1.len
  have H1 := Lib.hid hb1; clear hb1 hv1
  go_wp2_with fail
  refine (parts_any x _ (by omega) (Hg.out.pu H1.out)).mono ?_
  rintro e w2 ⟨v2, rfl, hv2, hb2⟩
  obtain ⟨a2, c2, rfl⟩ := hv2.len
  have H2 := Lib.hid hb2; clear hb2 hv2
  go_wp2_with (go_at_call 98; refine (cmpI_any _ _ _).mono ?_; rintro e w3 ⟨n, rfl, hb3⟩)
  go_ret
  exact ⟨n, rfl, (H1.out.tr H2.out).tr hb3⟩


end Go.Proofs.YtmigbgfgnhkmnaaGreatDoor

/- Package multi: Purge. -/
namespace Go.Proofs.YtmigbgfgnhkmnaaGreatDoor
open Go.RowKit Go.Av

attribute [local go_sem ↓] Go.wp_at_zero Go.wp_at_succ

variable {w w' : World} {tp mp : Nat} {nb : Str → Nat} {T : TreeD}

set_option maxHeartbeats 1000000 in
set_option maxRecDepth 100000 in
theorem insertion_none (v : Value) (a : Option Addr) (cap : Nat) (f : Value) (hv : v = .slice a 0 cap) (w : World) :
    Calls Tryz.prog 160 #[v, .int .i64 0, .int .i64 0, f] w fun e w' => e = .returned (.tuple #[]) ∧ w = w' := by
  subst hv
  go_enter Tryz.func160, Tryz.ntmps160
  go_wp2
  refine wp_loop_rounds 1 ?_; rw [rounds_succ]
  go_wp2
  go_end0
  exact ⟨rfl, rfl⟩

set_option maxHeartbeats 1000000 in
set_option maxRecDepth 100000 in
theorem stable_none (a : Option Addr) (cap : Nat) (f : Value) (w : World) :
    Calls Tryz.prog 128 #[.slice a 0 cap, .int .i64 0, f] w fun e w' => e = .returned (.tuple #[]) ∧ w = w' := by
  go_enter Tryz.func128, Tryz.ntmps128
  go_wp2
  refine wp_loop_rounds 1 ?_; rw [rounds_succ]
  go_wp2_with (go_at_call 160; refine (insertion_none _ a cap f rfl _).mono ?_; rintro e w1 ⟨rfl, rfl⟩)
  refine wp_loop_rounds 1 ?_; rw [rounds_succ]
  go_wp2
  go_end0
  exact ⟨rfl, rfl⟩

set_option maxHeartbeats 1000000 in
set_option maxRecDepth 100000 in
theorem sortStable_none (a : Option Addr) (cap : Nat) (f : Value) (w : World) :
    Calls Tryz.prog 96 #[.slice a 0 cap, f] w fun e w' => e = .returned (.tuple #[]) ∧ w = w' := by
  go_enter Tryz.func96, Tryz.ntmps96
  go_wp2_with (go_at_call 128; refine (stable_none a cap f _).mono ?_; rintro e w1 ⟨rfl, rfl⟩)
  go_end0
  exact ⟨rfl, rfl⟩

theorem cmpOk {g : Nat} (hg : gB ≤ g) : CmpOk Gl g :=
  ⟨fun x y w hx hy hw => cmpP_any x y w hx hy hw, fun _ _ h k => h.fr k fun b hb => by omega⟩

theorem ofT_any (sess : Int) (w : World) (h : TreeIn w tp mp nb T) (ho : TreeOk T) :
    Calls Tryz.prog 54 #[.pointer (some ⟨tp, 0, none⟩), .int .i64 sess] w (OwnS w.heap.size w (ofT T sess)) := by
  by_cases h0 : 0 < T.nodes.length
  · exact of_any sess w h ho h0
  · exact of_none sess w h ho (List.length_eq_zero_iff.1 (by omega))

/-- How far Purge has come. -/
def Purging (w : World) (tp mp : Nat) (nb : Str → Nat) (T : TreeD) (g : Nat) (l : List Str) (k : Nat) (wr : World) : Prop :=
  ∃ nb', TreeIn wr tp mp nb' ((l.take k).foldl removeT T) ∧ Fr (Foot tp mp nb T) w wr ∧ (∀ b, Foot tp mp nb' ((l.take k).foldl removeT T) b → Foot tp mp nb T b ∨ w.heap.size ≤ b) ∧ RowS wr g 0 l
theorem ofT_len {T : TreeD} (h : TreeOk T) (sess : Int) : (ofT T sess).length ≤ 500 := by
  have h1 := h.many
  have h2 := h.room1
  unfold ofT
  split
  · rw [List.length_map]
    have := List.length_filter_le (fun x : Str × NodeD => x.2.stat.owner == sess) T.nodes
    omega
  · simp
theorem ofT_good {T : TreeD} (h : TreeOk T) (sess : Int) : ∀ s ∈ ofT T sess, good s = true := by
  intro s hs
  unfold ofT at hs
  split at hs
  · obtain ⟨x, hx, rfl⟩ := List.mem_map.1 hs
    exact h.good x (List.mem_filter.1 hx).1
  · cases hs

set_option maxHeartbeats 2000000 in
set_option maxRecDepth 100000 in
theorem purge_any (sess : Int) (w : World) (h : TreeIn w tp mp nb T) (ho : TreeOk T) (hg : Gl w) (hlow : ∀ b, Foot tp mp nb T b → gB ≤ b) :
    Calls Tryz.prog 56 #[.pointer (some ⟨tp, 0, none⟩), .int .i64 sess] w fun e w' => (∃ v, e = .returned v) ∧ TreeStep w tp mp nb T (purgeT T sess) w' := by
  have H := Lib.hid h; have Ho := Lib.hid ho; have Hg := Lib.hid hg; have Hlow := Lib.hid hlow
  clear h ho hg hlow
  obtain ⟨l, hl⟩ : ∃ l, l = ofT T sess := ⟨_, rfl⟩
  have hlen : l.length ≤ 500 := by rw [hl]; exact ofT_len Ho.out sess
  have hgood := ofT_good Ho.out sess
  rw [← hl] at hgood
  have Hgood := Lib.hid hgood; clear hgood
  have e1 : purgeT T sess = l.foldl removeT T := by rw [hl]; rfl
  rw [e1]
  have HL := Lib.hid hl; clear hl e1
  by_cases h0 : l.length = 0
  · obtain rfl : l = [] := List.length_eq_zero_iff.1 h0
    clear h0
    go_enter Tryz.func56, Tryz.ntmps56
    go_wp2_with (first
      | (go_at_call 54; refine (ofT_any sess _ H.out Ho.out).mono ?_; rw [← HL.out]; rintro e w1 ⟨v, rfl, hv, hb1⟩; obtain ⟨a, cap, rfl, _⟩ := (SlS.of_own (l := []) hv).zero; have HB1 := Lib.hid hb1; clear hb1 hv)
      | (go_at_call 96; refine (sortStable_none a cap _ _).mono ?_; rintro e w1 ⟨rfl, rfl⟩))
    refine wp_loop_rounds 1 ?_; rw [rounds_succ]
    go_wp2
    go_ret
    exact ⟨⟨_, rfl⟩, TreeStep.refl H.out HB1.out⟩
  · have hpos : 0 < l.length := by omega
    obtain ⟨N, hN⟩ : ∃ N, N = l.length := ⟨_, rfl⟩
    rw [← hN] at hlen hpos h0
    have HN := Lib.hid hN; clear hN
    go_enter Tryz.func56, Tryz.ntmps56
    go_wp2_with fail
    refine (ofT_any sess _ H.out Ho.out).mono ?_
    rw [← HL.out]
    rintro e w1 ⟨v, rfl, hv, hb1⟩
    obtain ⟨hv1, ⟨_, hv2⟩ | ⟨g, cap, cur, rfl, hg1, hg2, hg3, _, hg5, hg6⟩⟩ := hv
    · have := HN.out; omega
    rw [← HN.out] at hg3 ⊢
    have hrow : RowS w1 g 0 l := ⟨cur, hg2, fun j hj => by
      have : (cur.toList.take (l.length * 1))[j]? = (strV l)[j]? := by rw [hg6]
      rw [List.getElem?_take, if_pos (by omega)] at this
      simpa [strV, hj] using this⟩
    have hgl : gB ≤ g := by
      have := Hg.out
      obtain ⟨_, h2, h3, _⟩ := this
      unfold gB; omega
    have Hgl1 := Lib.hid (Hg.out.pu hb1)
    have Hrow := Lib.hid hrow
    have HB1 := Lib.hid hb1
    have hgs : g < w1.heap.size := hrow.lt
    clear hrow hb1 hg2 hg5 hg6 hv1 hg3
    go_wp2_with (go_at_call 96; refine (sortStable_p g 0 cap N (cmpOk hgl) l (fun s hs => by have := good_len (Hgood.out s hs); omega) HN.out.symm (by omega) _ Hgl1.out Hrow.out).mono ?_; rintro e w2 ⟨rfl, hP⟩; obtain ⟨l2, hp2, hr2, hf2⟩ := hP; have HP2 := Lib.hid hp2; have HR2 := Lib.hid hr2; have HF2 := Lib.hid hf2; clear hp2 hr2 hf2)
    have hfw : Pu w w2 := pu_of_fr HB1.out HF2.out hg1
    have HPu := Lib.hid hfw
    have Hl2 := Lib.hid (HP2.out.length_eq.trans HN.out.symm)
    clear hfw
    go_loopw [15] (fun vi wr => ∃ k : Nat, vi = .int .i64 k ∧ k ≤ N ∧ Hid (Purging w tp mp nb T g l2 k wr)) (fun vi _ => (N - (intOf vi).toNat))
    case atStart => exact ⟨0, rfl, by omega, Lib.hid ⟨nb, by simpa using H.out.pu HPu.out, Fr.of_below HPu.out, fun b hb => .inl (by simpa using hb), HR2.out⟩⟩
    case round =>
      obtain ⟨k, rfl, hk, HG⟩ := hrel
      by_cases hkN : k < N
      · obtain ⟨nb', ht, hf, hfo, hr⟩ := HG.out
        have hk2 : k < l2.length := by have := Hl2.out; omega
        have c0 := (hr.at k hk2).1
        rw [Nat.zero_add] at c0
        obtain ⟨p, hp⟩ : ∃ p, p = l2[k] := ⟨_, rfl⟩
        rw [← hp] at c0
        have hpg := good_len (Hgood.out p (HP2.out.subset (by rw [hp]; exact List.getElem_mem _)))
        have hok := removes_ok Ho.out (l2.take k)
        have hlow : ∀ b, Foot tp mp nb' ((l2.take k).foldl removeT T) b → gB ≤ b := fun b hb => by
          rcases hfo b hb with h | h
          · exact Hlow.out b h
          · have := Hg.out
            obtain ⟨_, h2, h3, _⟩ := this
            unfold gB; omega
        have Hgr := Lib.hid (Hg.out.fr hf Hlow.out)
        have e2 : (l2.take (k + 1)).foldl removeT T = removeT ((l2.take k).foldl removeT T) p := by rw [List.take_succ_eq_append_getElem hk2, List.foldl_append, ← hp]; rfl
        have Hstep : Hid (∀ w3, TreeStep wr tp mp nb' ((l2.take k).foldl removeT T) (removeT ((l2.take k).foldl removeT T) p) w3 → Purging w tp mp nb T g l2 (k + 1) w3) := Lib.hid fun w3 ⟨nb3, t3, f3, o3⟩ => by
          rw [← e2] at t3 o3
          refine ⟨nb3, t3, hf.trans f3 (fun x hx hm => ?_), fun b hb => ?_, hr.keep (f3.keep g hr.lt fun hm => ?_)⟩
          · rcases hfo x hm with h | h
            · exact h
            · omega
          · rcases o3 b hb with h | h
            · exact hfo b h
            · exact .inr (Nat.le_trans hf.size h)
          · obtain ⟨c, hc, _⟩ := hr
            rcases ht.not_str hm c _ _ hc with h | h <;> cases h
        have Ht := Lib.hid ht; have Hok := Lib.hid hok; have HlowR := Lib.hid hlow
        clear hp e2 ht hf hfo hr hok hlow
        go_wp2_with (go_at_call 100; refine (removeT_any p _ Ht.out Hok.out.rise Hok.out.node (by omega) Hgr.out HlowR.out).mono ?_; rintro e w3 ⟨rfl, hs3⟩; have HS3 := Lib.hid (Hstep.out _ hs3); clear hs3)
        go_roundw
        case rel => exact ⟨k + 1, by go_num, by omega, HS3⟩
        case measure => simp [intOf]; omega
      · go_wp2
        go_ret
        obtain ⟨nb', ht, hf, hfo, hr⟩ := HG.out
        have e3 : l2.take k = l2 := List.take_of_length_le (by have := Hl2.out; omega)
        rw [e3] at ht hfo
        rw [removes_perm HP2.out Ho.out] at ht hfo
        exact ⟨⟨_, rfl⟩, nb', ht, hf, hfo⟩

end Go.Proofs.YtmigbgfgnhkmnaaGreatDoor

/- Package part: its state in memory; New. -/
namespace Go.Proofs.YtmigbgfgnhkmnaaGreatDoor
open Go.RowKit Go.Av

attribute [local go_sem ↓] Go.wp_at_zero Go.wp_at_succ
attribute [local go_sem] run_makeMap

abbrev TI : KeyT Tryz.prog 2 Int (fun n => (Lit.int .i64 n).wf = true) := keyT_int Tryz.underlying2
def fP (sv : Int → Value) (k : Int) (x : PrepD) : Value := .agg #[.int .i64 x.sess, sv k, .bool x.close, .bool x.fails]
def fB (_ : Int) (b : Bool) : Value := .bool b

/-- Where a part's pieces lie. -/
structure PL where
  tp : Nat
  mp : Nat
  lb : Nat
  lm : Nat
  wm : Nat
  dm : Nat
  cm : Nat
  nb : Str → Nat
  sv : Int → Value

/-- Block pb of w is this part. -/
structure PartIn (w : World) (pb : Nat) (A : PL) (P : PartD) : Prop where
  box : w.heap[pb]? = some (.cells #[.int .i64 P.room, .pointer (some ⟨A.tp, 0, none⟩), .pointer (some ⟨A.lb, 0, none⟩), .int .i64 P.zxid, .map (some A.wm), .map (some A.dm), .map (some A.cm)] 89 (0, 0))
  tree : TreeIn w A.tp A.mp A.nb P.tree
  locks : LocksAt w A.lb A.lm P.locks
  wait : MapV Tryz.prog 2 w (fP A.sv) A.wm P.wait
  dec : MapV Tryz.prog 2 w fB A.dm P.decided
  clo : MapV Tryz.prog 2 w fB A.cm P.closed
  ops : ∀ x ∈ P.wait, SlO 50 w (A.sv x.1) x.2.ops
  ne : [A.mp, A.lm, A.wm, A.dm, A.cm].Nodup

/-- The blocks of a part. -/
def PFoot (pb : Nat) (A : PL) (P : PartD) : Nat → Prop := fun b => Foot A.tp A.mp A.nb P.tree b ∨ b = pb ∨ b = A.lb ∨ b = A.lm ∨ b = A.wm ∨ b = A.dm ∨ b = A.cm

variable {w w' : World} {pb : Nat} {A : PL} {P : PartD}

theorem MapV.not_cells {K V : Type} [DecidableEq K] [Key K] {kt : TypeId} {f : K → V → Value} {b : Nat} {l : List (K × V)} (h : MapV Tryz.prog kt w f b l) {c : Array Value} {t : TypeId} {fr : Nat × Nat} (hc : w.heap[b]? = some (.cells c t fr)) : False := by
  obtain ⟨es, k, h1⟩ := h.isMap; rw [h1] at hc; cases hc

theorem PartIn.lt (h : PartIn w pb A P) {b : Nat} (hb : PFoot pb A P b) : b < w.heap.size := by
  rcases hb with hb | rfl | rfl | rfl | rfl | rfl | rfl
  · exact h.tree.lt hb
  · exact lt_of_blk h.box
  · exact lt_of_blk h.locks.box
  · exact h.locks.map.lt
  · exact h.wait.lt
  · exact h.dec.lt
  · exact h.clo.lt
theorem PartIn.kind (h : PartIn w pb A P) {b : Nat} (hb : PFoot pb A P b) {c : Array Value} {t : TypeId} {fr : Nat × Nat} (hc : w.heap[b]? = some (.cells c t fr)) : t = 117 ∨ t = 124 ∨ t = 89 ∨ t = 152 := by
  rcases hb with hb | rfl | rfl | rfl | rfl | rfl | rfl
  · rcases h.tree.not_str hb c t fr hc with h | h
    · exact .inl h
    · exact .inr (.inl h)
  · rw [h.box] at hc; cases hc; exact .inr (.inr (.inl rfl))
  · rw [h.locks.box] at hc; cases hc; exact .inr (.inr (.inr rfl))
  · exact (MapV.not_cells h.locks.map hc).elim
  · exact (MapV.not_cells h.wait hc).elim
  · exact (MapV.not_cells h.dec hc).elim
  · exact (MapV.not_cells h.clo hc).elim
theorem PartIn.pu (h : PartIn w pb A P) (hp : Pu w w') : PartIn w' pb A P :=
  ⟨(hp.block pb (lt_of_blk h.box)).trans h.box, h.tree.pu hp, h.locks.pu hp, h.wait.pu hp, h.dec.pu hp, h.clo.pu hp, fun x hx => (h.ops x hx).pu hp, h.ne⟩

/-- A map's block is no block of the tree but its own. -/
theorem TreeIn.foot_map {tp mp : Nat} {nb : Str → Nat} {T : TreeD} (h : TreeIn w tp mp nb T) {b : Nat} (hb : ∀ c t fr, w.heap[b]? ≠ some (.cells c t fr)) (hne : mp ≠ b) : ¬ Foot tp mp nb T b := by
  rintro (rfl | rfl | ⟨x, hx, rfl⟩)
  · exact hb _ _ _ h.box
  · exact hne rfl
  · obtain ⟨nv, h1, _⟩ := h.node x hx; exact hb _ _ _ h1
/-- A block of another struct is none of the tree's. -/
theorem TreeIn.foot_cells {tp mp : Nat} {nb : Str → Nat} {T : TreeD} (h : TreeIn w tp mp nb T) {b : Nat} {c : Array Value} {t : TypeId} {fr : Nat × Nat} (hb : w.heap[b]? = some (.cells c t fr)) (h1 : t ≠ 117) (h2 : t ≠ 124) : ¬ Foot tp mp nb T b := fun hm => by
  rcases h.not_str hm c t fr hb with h | h
  · exact h1 h
  · exact h2 h

/-- A step of the part. -/
def PartStep (w : World) (pb : Nat) (A : PL) (P P' : PartD) (w' : World) : Prop :=
  ∃ A', PartIn w' pb A' P' ∧ Fr (PFoot pb A P) w w' ∧ ∀ b, PFoot pb A' P' b → PFoot pb A P b ∨ w.heap.size ≤ b
theorem PartStep.refl (h : PartIn w pb A P) (hp : Pu w w') : PartStep w pb A P P w' := ⟨A, h.pu hp, Fr.of_below hp, fun _ hb => .inl hb⟩
/-- Two steps. -/
theorem PartStep.then {P' P'' : PartD} {A' : PL} {w1 w2 : World} (_ : PartIn w pb A P) (_ : PartIn w1 pb A' P') (hf : Fr (PFoot pb A P) w w1) (ho : ∀ b, PFoot pb A' P' b → PFoot pb A P b ∨ w.heap.size ≤ b) (k : PartStep w1 pb A' P' P'' w2) : PartStep w pb A P P'' w2 := by
  obtain ⟨A2, p2, f2, o2⟩ := k
  refine ⟨A2, p2, hf.trans f2 fun x hx hm => ?_, fun b hb => ?_⟩
  · rcases ho x hm with h | h
    · exact h
    · omega
  · rcases o2 b hb with h | h
    · exact ho b h
    · exact .inr (Nat.le_trans hf.size h)
theorem PartStep.after {P' : PartD} {w1 : World} (h0 : PartIn w pb A P) (hp : Pu w w1) (k : PartStep w1 pb A P P' w') : PartStep w pb A P P' w' :=
  PartStep.then h0 (h0.pu hp) (Fr.of_below hp) (fun _ hb => .inl hb) k
theorem PartStep.pu {P' : PartD} {w1 : World} (k : PartStep w pb A P P' w1) (hp : Pu w1 w') : PartStep w pb A P P' w' := by
  obtain ⟨A2, p2, f2, o2⟩ := k
  exact ⟨A2, p2.pu hp, f2.trans (Fr.of_below (M := fun _ => False) hp) fun _ _ h => h.elim, o2⟩

theorem ops_keep {M : Nat → Prop} (h : ∀ x ∈ P.wait, SlO 50 w (A.sv x.1) x.2.ops) (hf : Fr M w w') (hM : ∀ (b : Nat) (c : Array Value) (fr : Nat × Nat), w.heap[b]? = some (.cells c 50 fr) → ¬ M b) : ∀ x ∈ P.wait, SlO 50 w' (A.sv x.1) x.2.ops :=
  fun x hx => Sl.keep (h x hx) fun b c fr hb => hf.keep b (lt_of_blk hb) (hM b c fr hb)

/-- The tree turned, and nothing else of the part. -/
theorem PartIn.tree_step (h : PartIn w pb A P) {T' : TreeD} {mp' : Nat} {nb' : Str → Nat} {M : Nat → Prop} (ht : TreeIn w' A.tp mp' nb' T') (hf : Fr M w w') (hM : ∀ b, M b → Foot A.tp A.mp A.nb P.tree b)
    (hF : ∀ b, Foot A.tp mp' nb' T' b → Foot A.tp A.mp A.nb P.tree b ∨ w.heap.size ≤ b) : PartStep w pb A P { P with tree := T' } w' := by
  have hne := h.ne
  simp only [List.nodup_cons, List.mem_cons, List.not_mem_nil, or_false, not_or] at hne
  obtain ⟨⟨n1, n2, n3, n4⟩, ⟨n5, n6, n7⟩, ⟨n8, n9⟩, n10, _⟩ := hne
  have m1 := h.tree.foot_cells h.box (by decide) (by decide)
  have m2 := h.tree.foot_cells h.locks.box (by decide) (by decide)
  have m3 := h.tree.foot_map (b := A.lm) (fun _ _ _ hc => MapV.not_cells h.locks.map hc) n1
  have m4 := h.tree.foot_map (b := A.wm) (fun _ _ _ hc => MapV.not_cells h.wait hc) n2
  have m5 := h.tree.foot_map (b := A.dm) (fun _ _ _ hc => MapV.not_cells h.dec hc) n3
  have m6 := h.tree.foot_map (b := A.cm) (fun _ _ _ hc => MapV.not_cells h.clo hc) n4
  have hmp : Foot A.tp mp' nb' T' mp' := .inr (.inl rfl)
  have ne' : ∀ b, ¬ Foot A.tp A.mp A.nb P.tree b → b < w.heap.size → mp' ≠ b := fun b hb hlt e => by
    rcases hF _ hmp with k | k
    · rw [e] at k; exact hb k
    · omega
  refine ⟨{ A with mp := mp', nb := nb' }, ⟨?_, ht, h.locks.fr hf (fun k => m2 (hM _ k)) (fun k => m3 (hM _ k)), h.wait.fr hf (fun k => m4 (hM _ k)), h.dec.fr hf (fun k => m5 (hM _ k)), h.clo.fr hf (fun k => m6 (hM _ k)), ?_, ?_⟩, hf.mono fun b _ hb => .inl (hM b hb), fun b hb => ?_⟩
  · exact (hf.keep pb (lt_of_blk h.box) fun k => m1 (hM _ k)).trans h.box
  · exact ops_keep (A := { A with mp := mp', nb := nb' }) (P := P) h.ops hf fun b c fr hb k => h.tree.foot_cells hb (by decide) (by decide) (hM _ k)
  · have k1 := ne' _ m3 h.locks.map.lt
    have k2 := ne' _ m4 h.wait.lt
    have k3 := ne' _ m5 h.dec.lt
    have k4 := ne' _ m6 h.clo.lt
    simp only [List.nodup_cons, List.mem_cons, List.not_mem_nil, or_false, not_or]
    exact ⟨⟨k1, k2, k3, k4⟩, ⟨n5, n6, n7⟩, ⟨n8, n9⟩, n10, by simp⟩
  · rcases hb with hb | hb
    · rcases hF b hb with k | k
      · exact .inl (.inl k)
      · exact .inr k
    · exact .inl (.inr hb)

/-- One block of the part's own turned, none of the tree's: the rest is as it was. -/
theorem PartIn.rest {x : Nat} (h : PartIn w pb A P) (hf : Fr (fun b => b = x) w w') (hx : x = pb ∨ x = A.lm ∨ x = A.wm ∨ x = A.dm ∨ x = A.cm) :
    TreeIn w' A.tp A.mp A.nb P.tree ∧ (x ≠ pb → w'.heap[pb]? = some (.cells #[.int .i64 P.room, .pointer (some ⟨A.tp, 0, none⟩), .pointer (some ⟨A.lb, 0, none⟩), .int .i64 P.zxid, .map (some A.wm), .map (some A.dm), .map (some A.cm)] 89 (0, 0))) ∧ (x ≠ A.lm → LocksAt w' A.lb A.lm P.locks) ∧ (x ≠ A.wm → MapV Tryz.prog 2 w' (fP A.sv) A.wm P.wait) ∧ (x ≠ A.dm → MapV Tryz.prog 2 w' fB A.dm P.decided) ∧ (x ≠ A.cm → MapV Tryz.prog 2 w' fB A.cm P.closed) ∧
      (∀ x ∈ P.wait, SlO 50 w' (A.sv x.1) x.2.ops) := by
  have hne := h.ne
  simp only [List.nodup_cons, List.mem_cons, List.not_mem_nil, or_false, not_or] at hne
  obtain ⟨⟨n1, n2, n3, n4⟩, ⟨n5, n6, n7⟩, ⟨n8, n9⟩, n10, _⟩ := hne
  have hk : ¬ Foot A.tp A.mp A.nb P.tree x ∧ (∀ c fr t, w.heap[x]? = some (.cells c t fr) → t = 89) ∧ x ≠ A.lb := by
    rcases hx with rfl | rfl | rfl | rfl | rfl
    · exact ⟨h.tree.foot_cells h.box (by decide) (by decide), fun c fr t hc => by rw [h.box] at hc; cases hc; rfl, fun e => by have := h.box; rw [e, h.locks.box] at this; simp at this⟩
    · exact ⟨h.tree.foot_map (fun _ _ _ hc => MapV.not_cells h.locks.map hc) n1, fun _ _ _ hc => (MapV.not_cells h.locks.map hc).elim, fun e => MapV.not_cells h.locks.map (by rw [e]; exact h.locks.box)⟩
    · exact ⟨h.tree.foot_map (fun _ _ _ hc => MapV.not_cells h.wait hc) n2, fun _ _ _ hc => (MapV.not_cells h.wait hc).elim, fun e => MapV.not_cells h.wait (by rw [e]; exact h.locks.box)⟩
    · exact ⟨h.tree.foot_map (fun _ _ _ hc => MapV.not_cells h.dec hc) n3, fun _ _ _ hc => (MapV.not_cells h.dec hc).elim, fun e => MapV.not_cells h.dec (by rw [e]; exact h.locks.box)⟩
    · exact ⟨h.tree.foot_map (fun _ _ _ hc => MapV.not_cells h.clo hc) n4, fun _ _ _ hc => (MapV.not_cells h.clo hc).elim, fun e => MapV.not_cells h.clo (by rw [e]; exact h.locks.box)⟩
  obtain ⟨k1, k2, k3⟩ := hk
  refine ⟨h.tree.fr hf (fun b hb e => k1 (e ▸ hb)) (fun i c fr hi e => ?_), fun hp => (hf.keep pb (lt_of_blk h.box) (fun e => hp e.symm)).trans h.box, fun hl => h.locks.fr hf (fun e => k3 e.symm) (fun e => hl e.symm), fun hl => h.wait.fr hf (fun e => hl e.symm), fun hl => h.dec.fr hf (fun e => hl e.symm), fun hl => h.clo.fr hf (fun e => hl e.symm), ops_keep h.ops hf fun b c fr hb e => ?_⟩
  · subst e; have := k2 c fr _ hi; revert this; decide
  · subst e; have := k2 c fr _ hb; revert this; decide

theorem PartIn.nes (h : PartIn w pb A P) : (A.mp ≠ A.lm ∧ A.mp ≠ A.wm ∧ A.mp ≠ A.dm ∧ A.mp ≠ A.cm) ∧ (A.lm ≠ A.wm ∧ A.lm ≠ A.dm ∧ A.lm ≠ A.cm) ∧ (A.wm ≠ A.dm ∧ A.wm ≠ A.cm) ∧ A.dm ≠ A.cm ∧ pb ≠ A.lm ∧ pb ≠ A.wm ∧ pb ≠ A.dm ∧ pb ≠ A.cm := by
  have hne := h.ne
  simp only [List.nodup_cons, List.mem_cons, List.not_mem_nil, or_false, not_or] at hne
  obtain ⟨a, b, c, d, _⟩ := hne
  refine ⟨a, b, c, d, fun e => ?_, fun e => ?_, fun e => ?_, fun e => ?_⟩
  · exact MapV.not_cells h.locks.map (by rw [← e]; exact h.box)
  · exact MapV.not_cells h.wait (by rw [← e]; exact h.box)
  · exact MapV.not_cells h.dec (by rw [← e]; exact h.box)
  · exact MapV.not_cells h.clo (by rw [← e]; exact h.box)

/-- The number counted up. -/
theorem PartIn.set_zxid (h : PartIn w pb A P) (z : Int) : PartIn (w.setCell ⟨pb, 3, none⟩ (.int .i64 z)) pb A { P with zxid := z } ∧ Fr (PFoot pb A P) w (w.setCell ⟨pb, 3, none⟩ (.int .i64 z)) := by
  have hf : Fr (fun b => b = pb) w (w.setCell ⟨pb, 3, none⟩ (.int .i64 z)) := fr_set (Fr.refl _ _) _ _
  obtain ⟨_, _, _, _, e1, e2, e3, e4⟩ := h.nes
  obtain ⟨k1, _, k3, k4, k5, k6, k7⟩ := h.rest hf (.inl rfl)
  refine ⟨⟨?_, k1, k3 e1, k4 e2, k5 e3, k6 e4, k7, h.ne⟩, hf.mono fun b _ e => .inr (.inl e)⟩
  rw [setCell_blk h.box]; rfl
/-- The locks turned. -/
theorem PartIn.set_locks (h : PartIn w pb A P) {L : LocksD} (hL : LocksAt w' A.lb A.lm L) (hf : Fr (fun b => b = A.lm) w w') : PartIn w' pb A { P with locks := L } ∧ Fr (PFoot pb A P) w w' := by
  obtain ⟨_, ⟨b1, b2, b3⟩, _, _, e1, _, _, _⟩ := h.nes
  obtain ⟨k1, k2, _, k4, k5, k6, k7⟩ := h.rest hf (.inr (.inl rfl))
  exact ⟨⟨k2 (fun e => e1 e.symm), k1, hL, k4 b1, k5 b2, k6 b3, k7, h.ne⟩, hf.mono fun b _ e => .inr (.inr (.inr (.inl e)))⟩
/-- What was decided turned. -/
theorem PartIn.set_dec (h : PartIn w pb A P) {L : List (Int × Bool)} (hL : MapV Tryz.prog 2 w' fB A.dm L) (hf : Fr (fun b => b = A.dm) w w') : PartIn w' pb A { P with decided := L } ∧ Fr (PFoot pb A P) w w' := by
  obtain ⟨_, ⟨b1, b2, b3⟩, ⟨c1, c2⟩, d1, _, _, e1, _⟩ := h.nes
  obtain ⟨k1, k2, k3, k4, _, k6, k7⟩ := h.rest hf (.inr (.inr (.inr (.inl rfl))))
  exact ⟨⟨k2 (fun e => e1 e.symm), k1, k3 (fun e => b2 e.symm), k4 (fun e => c1 e.symm), hL, k6 d1, k7, h.ne⟩, hf.mono fun b _ e => .inr (.inr (.inr (.inr (.inr (.inl e)))))⟩
/-- What was closed turned. -/
theorem PartIn.set_clo (h : PartIn w pb A P) {L : List (Int × Bool)} (hL : MapV Tryz.prog 2 w' fB A.cm L) (hf : Fr (fun b => b = A.cm) w w') : PartIn w' pb A { P with closed := L } ∧ Fr (PFoot pb A P) w w' := by
  obtain ⟨_, ⟨b1, b2, b3⟩, ⟨c1, c2⟩, d1, _, _, _, e1⟩ := h.nes
  obtain ⟨k1, k2, k3, k4, k5, _, k7⟩ := h.rest hf (.inr (.inr (.inr (.inr rfl))))
  exact ⟨⟨k2 (fun e => e1 e.symm), k1, k3 (fun e => b3 e.symm), k4 (fun e => c2 e.symm), k5 (fun e => d1 e.symm), hL, k7, h.ne⟩, hf.mono fun b _ e => .inr (.inr (.inr (.inr (.inr (.inr e)))))⟩
/-- What waits turned. -/
theorem PartIn.set_wait (h : PartIn w pb A P) {L : List (Int × PrepD)} {sv : Int → Value} (hL : MapV Tryz.prog 2 w' (fP sv) A.wm L) (hf : Fr (fun b => b = A.wm) w w') (hs : ∀ x ∈ L, SlO 50 w' (sv x.1) x.2.ops) : PartIn w' pb { A with sv := sv } { P with wait := L } ∧ Fr (PFoot pb A P) w w' := by
  obtain ⟨_, ⟨b1, b2, b3⟩, ⟨c1, c2⟩, d1, _, e1, _, _⟩ := h.nes
  obtain ⟨k1, k2, k3, _, k5, k6, k7⟩ := h.rest hf (.inr (.inr (.inl rfl)))
  exact ⟨⟨k2 (fun e => e1 e.symm), k1, k3 (fun e => b1 e.symm), hL, k5 c1, k6 c2, hs, h.ne⟩, hf.mono fun b _ e => .inr (.inr (.inr (.inr (.inl e))))⟩

set_option maxHeartbeats 1000000 in
set_option maxRecDepth 100000 in
theorem newP_bad (room : Int) (w : World) (h : room < 1 ∨ 500 < room) :
    Calls Tryz.prog 10 #[.int .i64 room] w fun e w' => e = .returned (.tuple #[.pointer none, .int .i64 1]) ∧ w = w' := by
  go_enter Tryz.func10, Tryz.ntmps10
  go_wp2_with (go_at_call 42; refine (newT_bad _ _ h).mono ?_; rintro e w1 ⟨rfl, rfl⟩)
  go_ret2
  exact ⟨rfl, rfl⟩

set_option maxHeartbeats 1000000 in
set_option maxRecDepth 100000 in
theorem newP_any (room : Int) (w : World) (h1 : 1 ≤ room) (h5 : room ≤ 500) :
    Calls Tryz.prog 10 #[.int .i64 room] w fun e w' => ∃ pb A, e = .returned (.tuple #[.pointer (some ⟨pb, 0, none⟩), .int .i64 0]) ∧ PartIn w' pb A (newP room) ∧ Pu w w' ∧ ∀ b, PFoot pb A (newP room) b → w.heap.size ≤ b := by
  go_enter Tryz.func10, Tryz.ntmps10
  go_wp2_with (first
    | (go_at_call 42; refine (newT_any (nb := fun _ => 0) _ _ h1 h5).mono ?_; rintro e w1 ⟨rfl, ht, hb1⟩; have HT := Lib.hid ht; have HB1 := Lib.hid hb1; clear ht hb1)
    | (go_at_call 43; refine (locksNew_any _).mono ?_; rintro e w2 ⟨rfl, hl, hb2⟩; have HL := Lib.hid hl; have HB2 := Lib.hid hb2; clear hl hb2))
  go_ret2
  have q1 := lt_of_blk HT.out.box
  have q2 := lt_of_blk HL.out.box
  have q3 := HB1.out.size
  have q4 := HB2.out.size
  have p1 := pu_alloc w2 (.map #[] 0)
  have p2 := pu_alloc (w2.alloc (.map #[] 0)) (.map #[] 0)
  have p3 := pu_alloc ((w2.alloc (.map #[] 0)).alloc (.map #[] 0)) (.map #[] 0)
  have p4 := pu_alloc (((w2.alloc (.map #[] 0)).alloc (.map #[] 0)).alloc (.map #[] 0)) (.cells #[.int .i64 room, .pointer (some ⟨w.heap.size + 1, 0, none⟩), .pointer (some ⟨w1.heap.size + 1, 0, none⟩), .int .i64 0, .map (some w2.heap.size), .map (some (w2.heap.size + 1)), .map (some (w2.heap.size + 1 + 1))] 89)
  have m1 := ((MapV.made (P := Tryz.prog) (kt := 2) w2 (fP fun _ => .slice none 0 0)).pu p2).pu (p3.tr p4)
  have m2 := (MapV.made (P := Tryz.prog) (kt := 2) (w2.alloc (.map #[] 0)) fB).pu (p3.tr p4)
  have m3 := (MapV.made (P := Tryz.prog) (kt := 2) ((w2.alloc (.map #[] 0)).alloc (.map #[] 0)) fB).pu p4
  simp only [World.size_alloc] at m2 m3
  have hb := heap_alloc_new (((w2.alloc (.map #[] 0)).alloc (.map #[] 0)).alloc (.map #[] 0)) (.cells #[.int .i64 room, .pointer (some ⟨w.heap.size + 1, 0, none⟩), .pointer (some ⟨w1.heap.size + 1, 0, none⟩), .int .i64 0, .map (some w2.heap.size), .map (some (w2.heap.size + 1)), .map (some (w2.heap.size + 1 + 1))] 89)
  simp only [World.size_alloc] at hb
  refine ⟨w2.heap.size + 1 + 1 + 1, ⟨w.heap.size + 1, w.heap.size, w1.heap.size + 1, w1.heap.size, w2.heap.size, w2.heap.size + 1, w2.heap.size + 1 + 1, fun _ => 0, fun _ => .slice none 0 0⟩, rfl, ⟨hb, (HT.out.pu HB2.out).pu ((p1.tr p2).tr (p3.tr p4)), HL.out.pu ((p1.tr p2).tr (p3.tr p4)), m1, m2, m3, (fun x hx => nomatch hx), ?_⟩, (HB1.out.tr HB2.out).tr ((p1.tr p2).tr (p3.tr p4)), ?_⟩
  · simp only [List.nodup_cons, List.mem_cons, List.not_mem_nil, or_false, not_or]
    refine ⟨⟨?_, ?_, ?_, ?_⟩, ⟨?_, ?_, ?_⟩, ⟨?_, ?_⟩, ?_, ?_⟩ <;> first | omega | simp
  · intro b hb
    rcases hb with hb | h | h | h | h | h | h
    · rcases hb with h | h | ⟨x, hx, _⟩
      · simp only at h; omega
      · simp only at h; omega
      · cases hx
    all_goals ((try simp only at h); omega)

end Go.Proofs.YtmigbgfgnhkmnaaGreatDoor

/- Package part: what only looks: Zxid, Closed, Locks, Tree, Waiting, creates, wants, Wanted, closing, uses, known. -/
namespace Go.Proofs.YtmigbgfgnhkmnaaGreatDoor
open Go.RowKit Go.Av Go.Maps Go.Sort

attribute [local go_sem ↓] Go.wp_at_zero Go.wp_at_succ
attribute [local go_sem] run_makeMap

variable {w w' : World} {pb : Nat} {A : PL} {P : PartD}

theorem PartIn.cells (h : PartIn w pb A P) : w.cell? ⟨pb, 0, none⟩ = some (.int .i64 P.room) ∧ w.cell? ⟨pb, 1, none⟩ = some (.pointer (some ⟨A.tp, 0, none⟩)) ∧ w.cell? ⟨pb, 2, none⟩ = some (.pointer (some ⟨A.lb, 0, none⟩)) ∧ w.cell? ⟨pb, 3, none⟩ = some (.int .i64 P.zxid) ∧ w.cell? ⟨pb, 4, none⟩ = some (.map (some A.wm)) ∧ w.cell? ⟨pb, 5, none⟩ = some (.map (some A.dm)) ∧ w.cell? ⟨pb, 6, none⟩ = some (.map (some A.cm)) :=
  ⟨cell_of_blk h.box, cell_of_blk h.box, cell_of_blk h.box, cell_of_blk h.box, cell_of_blk h.box, cell_of_blk h.box, cell_of_blk h.box⟩

set_option maxHeartbeats 1000000 in
set_option maxRecDepth 100000 in
theorem zxid_any (w : World) (h : PartIn w pb A P) :
    Calls Tryz.prog 19 #[.pointer (some ⟨pb, 0, none⟩)] w fun e w' => e = .returned (.int .i64 P.zxid) ∧ w = w' := by
  obtain ⟨c0, c1, c2, c3, c4, c5, c6⟩ := h.cells
  clear h
  go_enter Tryz.func19, Tryz.ntmps19
  go_wp2
  go_ret
  exact ⟨rfl, rfl⟩

set_option maxRecDepth 100000 in
theorem PartIn.look_dec (h : PartIn w pb A P) (id : Int) (hi : i64 id) : (Instr.lookup 87 (.map (some A.dm)) (.int .i64 id) false).run Tryz.prog w = .ok (.bool (isIn id P.decided)) w := by
  have := h.dec.look TI Tryz.underlying87 (z := .bool false) rfl id hi
  rw [show (Key.kv id : Value) = .int .i64 id from rfl] at this
  rw [this]; unfold isIn; cases aget id P.decided <;> rfl
set_option maxRecDepth 100000 in
theorem PartIn.look_clo (h : PartIn w pb A P) (id : Int) (hi : i64 id) : (Instr.lookup 87 (.map (some A.cm)) (.int .i64 id) false).run Tryz.prog w = .ok (.bool (isIn id P.closed)) w := by
  have := h.clo.look TI Tryz.underlying87 (z := .bool false) rfl id hi
  rw [show (Key.kv id : Value) = .int .i64 id from rfl] at this
  rw [this]; unfold isIn; cases aget id P.closed <;> rfl
/-- Nothing prepared, as the value of a failed look. -/
def noPrep : Value := .agg #[.int .i64 0, .slice none 0 0, .bool false, .bool false]
set_option maxRecDepth 100000 in
theorem PartIn.look_wait (h : PartIn w pb A P) (id : Int) (hi : i64 id) : (Instr.lookup 86 (.map (some A.wm)) (.int .i64 id) true).run Tryz.prog w = .ok (.tuple #[(aget id P.wait).elim noPrep (fP A.sv id), .bool (aget id P.wait).isSome]) w :=
  h.wait.look_ok TI Tryz.underlying86 (z := noPrep) rfl id hi

set_option maxHeartbeats 1000000 in
set_option maxRecDepth 100000 in
theorem closed_any (sess : Int) (w : World) (h : PartIn w pb A P) (hi : i64 sess) :
    Calls Tryz.prog 22 #[.pointer (some ⟨pb, 0, none⟩), .int .i64 sess] w fun e w' => e = .returned (.bool (isIn sess P.closed)) ∧ w = w' := by
  obtain ⟨c0, c1, c2, c3, c4, c5, c6⟩ := h.cells
  have hl := h.look_clo sess hi
  clear h hi
  go_enter Tryz.func22, Tryz.ntmps22
  go_wp2
  go_ret
  exact ⟨rfl, rfl⟩

set_option maxHeartbeats 1000000 in
set_option maxRecDepth 100000 in
theorem locksP_any (w : World) (h : PartIn w pb A P) :
    Calls Tryz.prog 17 #[.pointer (some ⟨pb, 0, none⟩)] w fun e w' => e = .returned (.int .i64 P.locks.length) ∧ w = w' := by
  obtain ⟨c0, c1, c2, c3, c4, c5, c6⟩ := h.cells
  have H := Lib.hid h
  clear h
  go_enter Tryz.func17, Tryz.ntmps17
  go_wp2_with (go_at_call 59; refine (locksLen_any _ _ _ _ H.out.locks).mono ?_; rintro e w1 ⟨rfl, rfl⟩)
  go_ret
  exact ⟨rfl, rfl⟩

set_option maxHeartbeats 1000000 in
set_option maxRecDepth 100000 in
theorem treeP_any (w : World) (h : PartIn w pb A P) (ho : TreeOk P.tree) :
    Calls Tryz.prog 23 #[.pointer (some ⟨pb, 0, none⟩)] w fun e w' => ∃ nb', e = .returned (.pointer (some ⟨w.heap.size + 1, 0, none⟩)) ∧ TreeIn w' (w.heap.size + 1) w.heap.size nb' P.tree ∧ Pu w w' ∧ ∀ b, Foot (w.heap.size + 1) w.heap.size nb' P.tree b → w.heap.size ≤ b := by
  obtain ⟨c0, c1, c2, c3, c4, c5, c6⟩ := h.cells
  have H := Lib.hid h
  have Ho := Lib.hid ho
  clear h ho
  go_enter Tryz.func23, Tryz.ntmps23
  go_wp2_with (go_at_call 49; refine (copy_any _ H.out.tree Ho.out).mono ?_; rintro e w1 ⟨nb', rfl, ht, hp, hf⟩; have HT := Lib.hid ht; have HP := Lib.hid hp; have HF := Lib.hid hf; clear ht hp hf)
  go_ret
  exact ⟨nb', rfl, HT.out, HP.out, HF.out⟩

def intV (l : List Int) : List Value := l.map fun n => Value.int .i64 n
/-- The call hands back a slice of numbers that reads as l, of its own. -/
def OwnI (B : Nat) (w : World) (l : List Int) (e : Ending) (w' : World) : Prop := ∃ v', e = .returned v' ∧ w'.ownsRow B 2 1 v' l.length (intV l) ∧ Pu w w'
theorem keysI_any (mb : Nat) (w : World) : Calls Tryz.prog 58 #[.map (some mb)] w fun e w' => e = .returned (.func (.func 103) #[] #[.pointer (some ⟨w.heap.size, 0, none⟩)]) ∧ w' = w.alloc (.cells #[.map (some mb)] 86) :=
  (callsIn_wide (n := 5)).1 (Tryz.maps_Keys_Int (some mb) w)
theorem sortedI_any {V : Type} {f : Int → V → Value} {l : List (Int × V)} (mb : Nat) (w : World) (h : MapV Tryz.prog 2 w f mb l) (hs : asorted l) (hl : l.length ≤ 1000000) :
    Calls Tryz.prog 57 #[.func (.func 103) #[] #[.pointer (some ⟨w.heap.size, 0, none⟩)]] (w.alloc (.cells #[.map (some mb)] 86)) (OwnI (w.heap.size) (w.alloc (.cells #[.map (some mb)] 86)) (l.map (·.1))) := by
  have hsz : Maps.size (DataW.map (enc f l)) = l.length := enc_len f l
  refine ((callsIn_wide (n := 5)).1 (Tryz.slices_Sorted_Int mb l.length (.map (enc f l)) tok w h (by rw [hsz]; unfold maxLen; omega) (by rw [hsz]; omega))).mono ?_
  rintro e w1 ⟨v, ss, rfl, hS, hrow, hnil, hb⟩
  have hk : intKeys (DataW.map (enc f l)) = l.map (·.1) := by simp [intKeys, enc, List.map_map, Function.comp_def, Key.lit]; intros; rfl
  rw [hk] at hS
  have hm := sorted_keysI hs hS
  have hln : ss.length = (l.map (·.1)).length := hS.length_eq
  rw [hm, hln] at hrow
  have e1 : (l.map (·.1)).map encZ = intV (l.map (·.1)) := rfl
  rw [e1] at hrow
  exact ⟨v, rfl, ownsRow_base_a hrow (by simp), hb⟩

set_option maxHeartbeats 1000000 in
set_option maxRecDepth 100000 in
theorem waiting_any {N : Nat} (w : World) (h : PartIn w pb A P) (ho : PartOk N P) (hN : N ≤ 1000) :
    Calls Tryz.prog 16 #[.pointer (some ⟨pb, 0, none⟩)] w (OwnI w.heap.size w (P.wait.map (·.1))) := by
  obtain ⟨c0, c1, c2, c3, c4, c5, c6⟩ := h.cells
  have H := Lib.hid h
  have hs := Lib.hid ho.wait
  have hl : P.wait.length ≤ 1000000 := by have := ho.waitn; omega
  clear h ho
  go_enter Tryz.func16, Tryz.ntmps16
  go_wp2_with (first
    | (go_at_call 58; refine (keysI_any A.wm _).mono ?_; rintro e w1 ⟨rfl, rfl⟩)
    | (go_at_call 57; refine (sortedI_any A.wm w H.out.wait hs.out hl).mono ?_; rintro e w2 ⟨v, rfl, hrow, hb2⟩))
  go_ret
  exact ⟨v, rfl, hrow, (pu_alloc _ _).tr hb2⟩

set_option maxHeartbeats 1000000 in
set_option maxRecDepth 100000 in
theorem creates_any {tO : TypeId} (l : List OpD) (v : Value) (w : World) (h : SlO tO w v l) (hl : l.length ≤ 1000000) :
    Calls Tryz.prog 60 #[v] w fun e w' => e = .returned (.tuple #[.int .i64 (createsN l), .int .i64 (firstC l)]) ∧ Pu w w' := by
  by_cases h0 : 0 < l.length
  · obtain ⟨b, off, cap, rfl, hcap, hblt, H4⟩ := h.pos h0
    obtain ⟨n, hn⟩ : ∃ n, n = l.length := ⟨_, rfl⟩
    rw [← hn] at hl h0 hcap ⊢
    have HN := Lib.hid hn
    have HC := Lib.hid H4
    clear h H4 hn
    go_enter Tryz.func60, Tryz.ntmps60
    go_wp2
    go_loopw [2, 3, 8] (fun vn vf vi wr => ∃ (k : Nat) (c f : Nat), k ≤ n ∧ vi = .int .i64 k ∧ vn = .int .i64 c ∧ vf = .int .i64 f ∧ c ≤ k ∧ f ≤ k ∧ Hid (createsN (l.take k) = c) ∧ Hid (firstC (l.take k) = f) ∧ Hid (Pu w wr)) (fun _ _ vi _ => n - (intOf vi).toNat)
    case atStart => exact ⟨0, 0, 0, Nat.zero_le _, rfl, rfl, rfl, by omega, by omega, Lib.hid rfl, Lib.hid rfl, Lib.hid (Below.refl _ _)⟩
    case round =>
      obtain ⟨k, c, f, hk, rfl, rfl, rfl, hck, hfk, Hc, Hf, HB⟩ := hrel
      by_cases hlt : k < n
      · have hk2 : k < l.length := by have := HN.out; omega
        obtain ⟨c0, c1, c2, c3, c4⟩ := HC.out k hk2
        have hs1 := createsN_succ hk2
        have hs2 := firstC_succ hk2
        obtain ⟨o, ho⟩ : ∃ o, o = l[k] := ⟨_, rfl⟩
        rw [← ho] at c0 c1 c2 c3 c4 hs1 hs2
        rw [Hc.out] at hs1 hs2
        rw [Hf.out] at hs2
        have hc := (bcell HB.out).1
        have d0 := (hc b (off + k * 5) hblt).trans c0
        have d1 := (hc b (off + k * 5 + 1) hblt).trans c1
        have d2 := (hc b (off + k * 5 + 2) hblt).trans c2
        have d3 := (hc b (off + k * 5 + 3) hblt).trans c3
        have d4 := (hc b (off + k * 5 + 4) hblt).trans c4
        have hlt2 : b < wr.heap.size := Nat.lt_of_lt_of_le hblt HB.out.size
        clear hc c0 c1 c2 c3 c4 ho
        obtain ⟨kd, p, d, ve, fl⟩ := o
        by_cases hkd : kd = 1
        · subst hkd
          have e1 : createsN (l.take (k + 1)) = c + 1 := by rw [hs1]; simp [isCreate]
          by_cases hc0 : c = 0
          · subst hc0
            have e2 : firstC (l.take (k + 1)) = k := by rw [hs2]; simp [isCreate]
            have E1 := Lib.hid e1; have E2 := Lib.hid e2
            clear hs1 hs2 e1 e2
            go_wp2
            go_roundw
            case rel => exact ⟨k + 1, 1, k, by omega, by go_num, rfl, rfl, by omega, by omega, E1, E2, Lib.hid (HB.out.tr (pu_alloc _ _))⟩
            case measure => simp [intOf]; omega
          · have e2 : firstC (l.take (k + 1)) = f := by rw [hs2]; simp [hc0]
            have E1 := Lib.hid e1; have E2 := Lib.hid e2
            have z1 : ((c : Int) == 0) = false := by simpa using hc0
            have z2 : decide ((c : Int) = 0) = false := by simpa using hc0
            clear hs1 hs2 e1 e2
            go_wp2
            go_roundw
            case rel => exact ⟨k + 1, c + 1, f, by omega, by go_num, by go_num, rfl, by omega, by omega, E1, E2, Lib.hid (HB.out.tr (pu_alloc _ _))⟩
            case measure => simp [intOf]; omega
        · have e1 : createsN (l.take (k + 1)) = c := by rw [hs1]; simp [isCreate, hkd]
          have e2 : firstC (l.take (k + 1)) = f := by rw [hs2]; simp [isCreate, hkd]
          have E1 := Lib.hid e1; have E2 := Lib.hid e2
          have z1 : (kd == 1) = false := by simpa using hkd
          have z2 : (kd != 1) = true := by simpa using hkd
          have z3 : decide (kd = 1) = false := by simpa using hkd
          clear hs1 hs2 e1 e2
          go_wp2
          go_roundw
          case rel => exact ⟨k + 1, c, f, by omega, by go_num, rfl, rfl, by omega, by omega, E1, E2, Lib.hid (HB.out.tr (pu_alloc _ _))⟩
          case measure => simp [intOf]; omega
      · have hk' : k = n := by omega
        subst hk'
        have e1 : createsN l = c := by have := Hc.out; rwa [HN.out, List.take_length] at this
        have e2 : firstC l = f := by have := Hf.out; rwa [HN.out, List.take_length] at this
        have E1 := Lib.hid e1; have E2 := Lib.hid e2
        clear e1 e2
        go_wp2
        go_ret2
        exact ⟨by rw [E1.out, E2.out]; rfl, HB.out⟩
  · obtain rfl : l = [] := List.length_eq_zero_iff.1 (by omega)
    obtain ⟨a, cap, rfl, _⟩ := h.len
    go_enter Tryz.func60, Tryz.ntmps60
    go_wp2
    refine wp_loop_rounds 1 ?_; rw [rounds_succ]
    go_wp2
    go_ret2
    exact ⟨rfl, Below.refl _ _⟩

end Go.Proofs.YtmigbgfgnhkmnaaGreatDoor

/- Package part: Wanted, closing, uses, known. -/
namespace Go.Proofs.YtmigbgfgnhkmnaaGreatDoor
open Go.RowKit Go.Av Go.Maps Go.Sort

attribute [local go_sem ↓] Go.wp_at_zero Go.wp_at_succ
attribute [local go_sem] run_makeMap

variable {w w' : World} {pb : Nat} {A : PL} {P : PartD}

theorem pu_of_fr1 {w a b : World} {r : Nat} (h : Pu w a) (k : Fr (fun x => x = r) a b) (hr : w.heap.size ≤ r) : Pu w b := pu_of_fr h k hr
theorem Iter.pu {K V : Type} [DecidableEq K] [Key K] {kt : TypeId} {f : K → V → Value} {b r : Nat} {l : List (K × V)} {left : Lit → Bool} {cnt : Nat} (h : Iter Tryz.prog kt w f b r l left cnt) (hp : Pu w w') : Iter Tryz.prog kt w' f b r l left cnt :=
  h.fr (Fr.of_below (M := fun _ => False) hp) (fun h => h) (fun h => h)

set_option maxHeartbeats 1000000 in
set_option maxRecDepth 100000 in
theorem wanted_any {N : Nat} (w : World) (h : PartIn w pb A P) (ho : PartOk N P) (hN : N ≤ 1000) :
    Calls Tryz.prog 18 #[.pointer (some ⟨pb, 0, none⟩)] w fun e w' => e = .returned (.int .i64 (wantedP P)) ∧ Pu w w' := by
  obtain ⟨c0, c1, c2, c3, c4, c5, c6⟩ := h.cells
  have hpl := lt_of_blk h.box
  obtain ⟨w3, left, hrun, hit, hall, hp3, hs3⟩ := h.wait.range TI Tryz.underlying86
  obtain ⟨r, hr⟩ : ∃ r, r = w.heap.size := ⟨_, rfl⟩
  rw [← hr] at hrun hit
  have hr2 : w.heap.size ≤ r := by omega
  have hw : wantedP P ≤ 16000 := by have := wantedW_le ho.opn; have := ho.waitn; unfold wantedP; omega
  have S0 := Lib.hid (show 0 + sumL wantsX left P.wait = wantedP P by rw [sumL_all hall, Nat.zero_add]; rfl)
  have H := Lib.hid h
  have Ho := Lib.hid ho
  have It := Lib.hid hit
  have P3 := Lib.hid hp3
  clear hr h ho hit hall hp3
  go_enter Tryz.func18, Tryz.ntmps18
  go_wp2
  go_loopw [3] (fun vn wr => ∃ (m : Nat) (left : Lit → Bool) (cnt : Nat), vn = .int .i64 m ∧ m ≤ 16000 ∧ Hid (Iter Tryz.prog 2 wr (fP A.sv) A.wm r P.wait left cnt) ∧ Hid (Pu w wr) ∧ Hid (m + sumL wantsX left P.wait = wantedP P)) (fun _ wr => wr.rangeLeft A.wm r)
  case atStart => exact ⟨0, left, _, rfl, by omega, It, P3, S0⟩
  case round =>
    obtain ⟨m, left', cnt, rfl, hm, It', P', S'⟩ := hrel
    rcases It'.out.next TI 0 with ⟨h0, hd, hn⟩ | ⟨k, v, w5, cnt', hkv, hlk, hn, it5, hlt5, hf5, hs5, hen⟩
    · have hsum := S'.out
      rw [sumL_none fun x _ => hd _] at hsum
      have HS := Lib.hid hsum
      clear hsum
      go_wp2
      go_ret
      exact ⟨by rw [← HS.out]; rfl, P'.out⟩
    · have P5 := Lib.hid (pu_of_fr1 P'.out hf5 hr2)
      have hst := sumL_step (f := wantsX) Ho.out.wait hkv hlk
      have hs := S'.out
      rw [hst] at hs
      have hops := (H.out.pu P5.out).ops _ hkv
      have hol : v.ops.length ≤ 16 := Ho.out.opn _ hkv
      have hwl : wantsX v ≤ 16 := wantsX_le hol
      obtain ⟨sa, sc, hsv, _⟩ := hops.len
      have hmw : m + wantsX v ≤ 16000 := by omega
      have HS := Lib.hid hs
      have C5 := Lib.hid It'.out.left_eq
      obtain ⟨sess, ops, cl, fl⟩ := v
      simp only at hsv hops hol
      replace hn : (Instr.next (.pointer (some ⟨r, 0, none⟩)) false 0).run Tryz.prog wr = .ok (.tuple #[.bool true, .int .i64 k, .agg #[.int .i64 sess, .slice sa ops.length sc, .bool cl, .bool fl]]) w5 := by rw [← hsv]; exact hn
      replace hen : (Instr.entry (.pointer (some ⟨r, 0, none⟩))).run Tryz.prog w5 = .ok (.tuple #[.int .i64 k, .agg #[.int .i64 sess, .slice sa ops.length sc, .bool cl, .bool fl]]) w5 := by rw [← hsv]; exact hen
      rw [hsv] at hops
      have HO := Lib.hid hops
      have I5 := Lib.hid it5
      clear hs hst hops hsv hkv hlk hf5 it5 S'
      cases fl
      · have ew : wantsX ⟨sess, ops, cl, false⟩ = createsN ops := rfl
        rw [ew] at hmw hwl
        have HS2 := Lib.hid (by have := HS.out; rw [ew] at this; exact this)
        clear HS ew
        go_wp2_with (go_at_call 60; refine (creates_any ops _ _ (HO.out.pu (pu_alloc _ _)) (by omega)).mono ?_; rintro x w6 ⟨rfl, hb6⟩; have HB6 := Lib.hid hb6; clear hb6)
        go_roundw
        case rel => exact ⟨m + createsN ops, _, _, by go_num, hmw, Lib.hid (Iter.pu (Iter.pu I5.out (pu_alloc _ _)) HB6.out), Lib.hid ((P5.out.tr (pu_alloc _ _)).tr HB6.out), Lib.hid (by have := HS2.out; omega)⟩
        case measure => rw [(Iter.pu (Iter.pu I5.out (pu_alloc _ _)) HB6.out).left_eq, C5.out]; omega
      · have ew : wantsX ⟨sess, ops, cl, true⟩ = 0 := rfl
        have HS2 := Lib.hid (by have := HS.out; rw [ew] at this; exact this)
        clear HS ew
        go_wp2
        go_roundw
        case rel => exact ⟨m, _, _, rfl, hm, Lib.hid (Iter.pu I5.out (pu_alloc _ _)), Lib.hid (P5.out.tr (pu_alloc _ _)), Lib.hid (by have := HS2.out; omega)⟩
        case measure => rw [(Iter.pu I5.out (pu_alloc _ _)).left_eq, C5.out]; omega

/-- Nothing of what was passed is so. -/
def Past (q : PrepD → Bool) (W : List (Int × PrepD)) (left : Lit → Bool) : Prop := ∀ x ∈ W, left (Key.lit x.1) = false → q x.2 = false
theorem Past.start {q : PrepD → Bool} {W : List (Int × PrepD)} {left : Lit → Bool} (h : ∀ x ∈ W, left (Key.lit x.1) = true) : Past q W left := fun x hx hl => by rw [h x hx] at hl; cases hl
theorem Past.step {q : PrepD → Bool} {W : List (Int × PrepD)} {left : Lit → Bool} (hs : asorted W) (h : Past q W left) {k : Int} {v : PrepD} (hm : (k, v) ∈ W) (hv : q v = false) : Past q W (fun x => left x && !x.sameKey (Key.lit k)) := fun x hx hl => by
  simp only [Bool.and_eq_false_iff, Bool.not_eq_false'] at hl
  rcases hl with hl | hl
  · exact h x hx hl
  · rw [Key.same_lit] at hl
    have := sorted_inj hs hx hm (by simpa using hl)
    rw [this]; exact hv
theorem Past.done {q : PrepD → Bool} {W : List (Int × PrepD)} {left : Lit → Bool} (h : Past q W left) (hd : ∀ kl, left kl = false) : (W.any fun x => q x.2) = false := by
  rw [List.any_eq_false]; intro x hx; simp [h x hx (hd _)]

def isClosing (sess : Int) (x : PrepD) : Bool := x.close && x.sess == sess
def isUsing (sess : Int) (x : PrepD) : Bool := x.sess == sess

set_option maxHeartbeats 1000000 in
set_option maxRecDepth 100000 in
theorem closing_any {N : Nat} (sess : Int) (w : World) (h : PartIn w pb A P) (ho : PartOk N P) :
    Calls Tryz.prog 88 #[.pointer (some ⟨pb, 0, none⟩), .int .i64 sess] w fun e w' => e = .returned (.bool (closingB P sess)) ∧ Pu w w' := by
  obtain ⟨c0, c1, c2, c3, c4, c5, c6⟩ := h.cells
  have hpl := lt_of_blk h.box
  obtain ⟨w3, left, hrun, hit, hall, hp3, hs3⟩ := h.wait.range TI Tryz.underlying86
  obtain ⟨r, hr⟩ : ∃ r, r = w.heap.size := ⟨_, rfl⟩
  rw [← hr] at hrun hit
  have hr2 : w.heap.size ≤ r := by omega
  have S0 := Lib.hid (Past.start (q := isClosing sess) hall)
  have H := Lib.hid h
  have Ho := Lib.hid ho
  have It := Lib.hid hit
  have P3 := Lib.hid hp3
  clear hr h ho hit hall hp3
  go_enter Tryz.func88, Tryz.ntmps88
  go_wp2
  go_loopw [] (fun wr => ∃ (left : Lit → Bool) (cnt : Nat), Hid (Iter Tryz.prog 2 wr (fP A.sv) A.wm r P.wait left cnt) ∧ Hid (Pu w wr) ∧ Hid (Past (isClosing sess) P.wait left)) (fun wr => wr.rangeLeft A.wm r)
  case atStart => exact ⟨left, _, It, P3, S0⟩
  case round =>
    obtain ⟨left', cnt, It', P', S'⟩ := hrel
    rcases It'.out.next TI 0 with ⟨h0, hd, hn⟩ | ⟨k, v, w5, cnt', hkv, hlk, hn, it5, hlt5, hf5, hs5, hen⟩
    · have hsum := S'.out.done hd
      have HS := Lib.hid hsum
      clear hsum
      go_wp2
      go_ret
      exact ⟨by rw [show closingB P sess = false from HS.out]; rfl, P'.out⟩
    · have P5 := Lib.hid (pu_of_fr1 P'.out hf5 hr2)
      have hops := (H.out.pu P5.out).ops _ hkv
      obtain ⟨sa, sc, hsv, _⟩ := hops.len
      have C5 := Lib.hid It'.out.left_eq
      have HK := Lib.hid hkv
      have HSt := Lib.hid (fun (hv : isClosing sess v = false) => S'.out.step Ho.out.wait hkv hv)
      have HIn := Lib.hid (fun (hv : isClosing sess v = true) => show closingB P sess = true from List.any_eq_true.2 ⟨_, hkv, hv⟩)
      obtain ⟨se, ops, cl, fl⟩ := v
      simp only at hsv hops
      replace hn : (Instr.next (.pointer (some ⟨r, 0, none⟩)) false 0).run Tryz.prog wr = .ok (.tuple #[.bool true, .int .i64 k, .agg #[.int .i64 se, .slice sa ops.length sc, .bool cl, .bool fl]]) w5 := by rw [← hsv]; exact hn
      replace hen : (Instr.entry (.pointer (some ⟨r, 0, none⟩))).run Tryz.prog w5 = .ok (.tuple #[.int .i64 k, .agg #[.int .i64 se, .slice sa ops.length sc, .bool cl, .bool fl]]) w5 := by rw [← hsv]; exact hen
      have I5 := Lib.hid it5
      clear hops hsv hkv hlk hf5 it5 S' HK
      cases cl
      · have HS2 := Lib.hid (HSt.out rfl)
        clear HSt HIn
        go_wp2
        go_roundw
        case rel => exact ⟨_, _, Lib.hid (Iter.pu I5.out (pu_alloc _ _)), Lib.hid (P5.out.tr (pu_alloc _ _)), HS2⟩
        case measure => rw [(Iter.pu I5.out (pu_alloc _ _)).left_eq, C5.out]; omega
      · by_cases hse : se = sess
        · subst hse
          have HS2 := Lib.hid (HIn.out (by simp [isClosing]))
          clear HSt HIn
          go_wp2
          go_ret
          exact ⟨by rw [HS2.out]; rfl, P5.out.tr (pu_alloc _ _)⟩
        · have HS2 := Lib.hid (HSt.out (by simp [isClosing, hse]))
          have z1 : (se == sess) = false := by simpa using hse
          have z2 : decide (se = sess) = false := by simpa using hse
          clear HSt HIn
          go_wp2
          go_roundw
          case rel => exact ⟨_, _, Lib.hid (Iter.pu I5.out (pu_alloc _ _)), Lib.hid (P5.out.tr (pu_alloc _ _)), HS2⟩
          case measure => rw [(Iter.pu I5.out (pu_alloc _ _)).left_eq, C5.out]; omega

set_option maxHeartbeats 1000000 in
set_option maxRecDepth 100000 in
theorem uses_any {N : Nat} (sess : Int) (w : World) (h : PartIn w pb A P) (ho : PartOk N P) :
    Calls Tryz.prog 53 #[.pointer (some ⟨pb, 0, none⟩), .int .i64 sess] w fun e w' => e = .returned (.bool (usesB P sess)) ∧ Pu w w' := by
  obtain ⟨c0, c1, c2, c3, c4, c5, c6⟩ := h.cells
  have hpl := lt_of_blk h.box
  obtain ⟨w3, left, hrun, hit, hall, hp3, hs3⟩ := h.wait.range TI Tryz.underlying86
  obtain ⟨r, hr⟩ : ∃ r, r = w.heap.size := ⟨_, rfl⟩
  rw [← hr] at hrun hit
  have hr2 : w.heap.size ≤ r := by omega
  have S0 := Lib.hid (Past.start (q := isUsing sess) hall)
  have H := Lib.hid h
  have Ho := Lib.hid ho
  have It := Lib.hid hit
  have P3 := Lib.hid hp3
  clear hr h ho hit hall hp3
  go_enter Tryz.func53, Tryz.ntmps53
  go_wp2
  go_loopw [] (fun wr => ∃ (left : Lit → Bool) (cnt : Nat), Hid (Iter Tryz.prog 2 wr (fP A.sv) A.wm r P.wait left cnt) ∧ Hid (Pu w wr) ∧ Hid (Past (isUsing sess) P.wait left)) (fun wr => wr.rangeLeft A.wm r)
  case atStart => exact ⟨left, _, It, P3, S0⟩
  case round =>
    obtain ⟨left', cnt, It', P', S'⟩ := hrel
    rcases It'.out.next TI 0 with ⟨h0, hd, hn⟩ | ⟨k, v, w5, cnt', hkv, hlk, hn, it5, hlt5, hf5, hs5, hen⟩
    · have hsum := S'.out.done hd
      have HS := Lib.hid hsum
      clear hsum
      go_wp2
      go_ret
      exact ⟨by rw [show usesB P sess = false from HS.out]; rfl, P'.out⟩
    · have P5 := Lib.hid (pu_of_fr1 P'.out hf5 hr2)
      have hops := (H.out.pu P5.out).ops _ hkv
      obtain ⟨sa, sc, hsv, _⟩ := hops.len
      have C5 := Lib.hid It'.out.left_eq
      have HSt := Lib.hid (fun (hv : isUsing sess v = false) => S'.out.step Ho.out.wait hkv hv)
      have HIn := Lib.hid (fun (hv : isUsing sess v = true) => show usesB P sess = true from List.any_eq_true.2 ⟨_, hkv, hv⟩)
      obtain ⟨se, ops, cl, fl⟩ := v
      simp only at hsv hops
      replace hn : (Instr.next (.pointer (some ⟨r, 0, none⟩)) false 0).run Tryz.prog wr = .ok (.tuple #[.bool true, .int .i64 k, .agg #[.int .i64 se, .slice sa ops.length sc, .bool cl, .bool fl]]) w5 := by rw [← hsv]; exact hn
      replace hen : (Instr.entry (.pointer (some ⟨r, 0, none⟩))).run Tryz.prog w5 = .ok (.tuple #[.int .i64 k, .agg #[.int .i64 se, .slice sa ops.length sc, .bool cl, .bool fl]]) w5 := by rw [← hsv]; exact hen
      have I5 := Lib.hid it5
      clear hops hsv hkv hlk hf5 it5 S'
      by_cases hse : se = sess
      · subst hse
        have HS2 := Lib.hid (HIn.out (by simp [isUsing]))
        clear HSt HIn
        go_wp2
        go_ret
        exact ⟨by rw [HS2.out]; rfl, P5.out.tr (pu_alloc _ _)⟩
      · have HS2 := Lib.hid (HSt.out (by simp [isUsing, hse]))
        have z1 : (se == sess) = false := by simpa using hse
        have z2 : decide (se = sess) = false := by simpa using hse
        clear HSt HIn
        go_wp2
        go_roundw
        case rel => exact ⟨_, _, Lib.hid (Iter.pu I5.out (pu_alloc _ _)), Lib.hid (P5.out.tr (pu_alloc _ _)), HS2⟩
        case measure => rw [(Iter.pu I5.out (pu_alloc _ _)).left_eq, C5.out]; omega

set_option maxHeartbeats 1000000 in
set_option maxRecDepth 100000 in
theorem known_any (id sess : Int) (w : World) (h : PartIn w pb A P) (hi : i64 id) :
    Calls Tryz.prog 47 #[.pointer (some ⟨pb, 0, none⟩), .int .i64 id, .int .i64 sess] w fun e w' => e = .returned (.bool (knownB P id sess)) ∧ Pu w w' := by
  obtain ⟨c0, c1, c2, c3, c4, c5, c6⟩ := h.cells
  have hpl := lt_of_blk h.box
  have hd := fun C => (h.pu (pu_alloc w C)).look_dec id hi
  have hw := h.look_wait id hi
  have key : ∀ (sess' : Int) (sl : Option Addr) (n c : Nat) (cl fl q : Bool), ((aget id P.wait).elim noPrep (fP A.sv id) = .agg #[.int .i64 sess', .slice sl n c, .bool cl, .bool fl]) → (aget id P.wait).isSome = q →
      Calls Tryz.prog 47 #[.pointer (some ⟨pb, 0, none⟩), .int .i64 id, .int .i64 sess] w fun e w' => e = .returned (.bool (knownB P id sess)) ∧ Pu w w' := by
    intro sess' sl n c cl fl q h1 h2
    rw [h1, h2] at hw
    have e : knownB P id sess = (decide (id < 1) || (decide (sess < 1) || (q || isIn id P.decided))) := by rw [knownB, h2]
    have E := Lib.hid e
    clear h h1 h2 e hi
    generalize isIn id P.decided = d at hd E
    rw [E.out]
    clear E
    cases q <;> cases d
    all_goals
      go_enter Tryz.func47, Tryz.ntmps47
      go_wp2
      all_goals
        go_ret
        refine ⟨ret_bool ?_, pu_alloc _ _⟩
        go_light; simp_all
  cases hx : aget id P.wait with
  | none => exact key 0 none 0 0 false false false (by rw [hx]; rfl) (by rw [hx]; rfl)
  | some x =>
    obtain ⟨a, cap, h1, _⟩ := (h.ops _ (aget_mem hx)).len
    exact key x.sess a x.ops.length cap x.close x.fails true (by rw [hx]; simp only [Option.elim_some, fP]; rw [h1]) (by rw [hx]; rfl)

end Go.Proofs.YtmigbgfgnhkmnaaGreatDoor

/- Package part: wants, busy. -/
namespace Go.Proofs.YtmigbgfgnhkmnaaGreatDoor
open Go.RowKit Go.Av Go.Maps Go.Sort

attribute [local go_sem ↓] Go.wp_at_zero Go.wp_at_succ
attribute [local go_sem] run_makeMap

variable {w w' : World} {pb : Nat} {A : PL} {P : PartD}

theorem one_own (w : World) (s : Str) : (w.alloc (.cells #[.string (mkB s)] 9)).ownsRow w.heap.size 9 1 (.slice (some ⟨w.heap.size, 0, none⟩) 1 1) 1 [.string (mkB s)] :=
  ⟨rfl, .inr ⟨w.heap.size, 1, #[.string (mkB s)], rfl, Nat.le_refl _, heap_alloc_new _ _, Nat.le_refl _, by unfold maxLen; omega, rfl, rfl⟩⟩
theorem one_slS (w : World) (s : Str) : SlS 9 (w.alloc (.cells #[.string (mkB s)] 9)) (.slice (some ⟨w.heap.size, 0, none⟩) 1 1) [s] := SlS.of_own (l := [s]) (one_own w s)

set_option maxHeartbeats 1000000 in
set_option maxRecDepth 100000 in
theorem wants_one (o : OpD) (w : World) (hp : o.path.length ≤ 1000000) (hg : Gl w) (hn : parent o.path = none ∨ o.kind ≠ 1 ∨ seqB o.flags = false) :
    Calls Tryz.prog 51 #[o.val] w (RetS 9 w (wantsO o)) := by
  have e : wantsO o = [o.path] := by
    unfold wantsO
    split
    · rename_i up hup
      rw [if_neg]
      rintro ⟨a, b⟩
      rcases hn with h | h | h
      · rw [hup] at h; cases h
      · exact h a
      · rw [h] at b; cases b
    · rfl
  rw [e]
  have Hg := Lib.hid hg
  have P1 := Lib.hid (pu_alloc w (.cells #[.int .i64 o.kind, .string (mkB o.path), .string (mkB o.data), .int .i64 o.version, .int .i64 o.flags] 50))
  have B1 := Lib.hid (al1 w (.cells #[.int .i64 o.kind, .string (mkB o.path), .string (mkB o.data), .int .i64 o.version, .int .i64 o.flags] 50))
  clear hg e
  obtain ⟨kd, p, d, ve, fl⟩ := o
  simp only at hn hp P1 B1 ⊢
  have HS1 := Lib.hid (one_slS (w.alloc (.cells #[.int .i64 kd, .string (mkB p), .string (mkB d), .int .i64 ve, .int .i64 fl] 50)) p)
  rw [World.size_alloc] at HS1
  obtain ⟨par, hpar⟩ : ∃ par, par = parent p := ⟨_, rfl⟩
  rw [← hpar] at hn
  have HPar := Lib.hid hpar
  clear hpar
  cases par with
  | none =>
    clear hn
    go_enter Tryz.func51, Tryz.ntmps51
    go_wp2_with (go_at_call 95; refine (parent_any p _ (by omega) (Hg.out.pu (P1.out.tr (pu_alloc _ _)))).mono ?_; rw [← HPar.out, parentV]; rintro e w1 ⟨rfl, hb1⟩; have HB1 := Lib.hid hb1; clear hb1)
    go_ret
    exact ⟨_, rfl, HS1.out.pu HB1.out, (P1.out.tr (pu_alloc _ _)).tr HB1.out⟩
  | some up =>
    by_cases hkd : kd = 1
    · have hs : seqB fl = false := by
        rcases hn with h | h | h
        · cases h
        · exact absurd hkd h
        · exact h
      subst hkd
      have hs1 : (bits BinOp.and IntKind.i64 fl 2 == 0) = true := by simpa [seqB] using hs
      have hs2 : bits BinOp.and IntKind.i64 fl 2 = 0 := by simpa using hs1
      clear hs hn
      go_enter Tryz.func51, Tryz.ntmps51
      go_wp2_with (go_at_call 95; refine (parent_any p _ (by omega) (Hg.out.pu (P1.out.tr (pu_alloc _ _)))).mono ?_; rw [← HPar.out, parentV]; rintro e w1 ⟨rfl, hb1⟩; have R1 := ((hb1.block w.heap.size (by simp only [World.size_alloc]; omega)).trans (((pu_alloc _ _).block w.heap.size (by simp only [World.size_alloc]; omega)).trans B1.out)); have q0 : w1.cell? ⟨w.heap.size, 0, none⟩ = some (.int .i64 1) := cell_of_blk R1; have q4 : w1.cell? ⟨w.heap.size, 4, none⟩ = some (.int .i64 fl) := cell_of_blk R1; clear R1; have HB1 := Lib.hid hb1; clear hb1)
      go_ret
      exact ⟨_, rfl, HS1.out.pu HB1.out, (P1.out.tr (pu_alloc _ _)).tr HB1.out⟩
    · have z1 : (kd == 1) = false := by simpa using hkd
      have z2 : decide (kd = 1) = false := by simpa using hkd
      clear hn
      go_enter Tryz.func51, Tryz.ntmps51
      go_wp2_with (go_at_call 95; refine (parent_any p _ (by omega) (Hg.out.pu (P1.out.tr (pu_alloc _ _)))).mono ?_; rw [← HPar.out, parentV]; rintro e w1 ⟨rfl, hb1⟩; have R1 := ((hb1.block w.heap.size (by simp only [World.size_alloc]; omega)).trans (((pu_alloc _ _).block w.heap.size (by simp only [World.size_alloc]; omega)).trans B1.out)); have q0 : w1.cell? ⟨w.heap.size, 0, none⟩ = some (.int .i64 kd) := cell_of_blk R1; clear R1; have HB1 := Lib.hid hb1; clear hb1)
      go_ret
      exact ⟨_, rfl, HS1.out.pu HB1.out, (P1.out.tr (pu_alloc _ _)).tr HB1.out⟩

set_option maxHeartbeats 1000000 in
set_option maxRecDepth 100000 in
theorem wants_two (o : OpD) (w : World) (hp : o.path.length ≤ 1000000) (hg : Gl w) (up : Str) (hu : parent o.path = some up) (hk : o.kind = 1) (hs : seqB o.flags = true) :
    Calls Tryz.prog 51 #[o.val] w (RetS 9 w (wantsO o)) := by
  have e : wantsO o = [o.path, up] := by simp [wantsO, hu, hk, hs]
  rw [e]
  obtain ⟨i0, hi, hz0, hz1, hz2⟩ := info_parts infoStr
  have Hi := Lib.hid hi
  have Hg := Lib.hid hg
  have P1 := Lib.hid (pu_alloc w (.cells #[.int .i64 o.kind, .string (mkB o.path), .string (mkB o.data), .int .i64 o.version, .int .i64 o.flags] 50))
  have B1 := Lib.hid (al1 w (.cells #[.int .i64 o.kind, .string (mkB o.path), .string (mkB o.data), .int .i64 o.version, .int .i64 o.flags] 50))
  have HPar := Lib.hid hu
  clear hg e hi hu
  obtain ⟨kd, p, d, ve, fl⟩ := o
  simp only at hp P1 B1 hk hs HPar ⊢
  subst hk
  have hs1 : (bits BinOp.and IntKind.i64 fl 2 == 0) = false := by simpa [seqB] using hs
  have hs2 : (bits BinOp.and IntKind.i64 fl 2 != 0) = true := by simpa [seqB] using hs
  clear hs
  go_enter Tryz.func51, Tryz.ntmps51
  go_wp2_with (first
    | (go_at_call 95; refine (parent_any p _ (by omega) (Hg.out.pu (P1.out.tr (pu_alloc _ _)))).mono ?_; rw [HPar.out, parentV]; rintro e w1 ⟨rfl, hb1⟩; have R1 := ((hb1.block w.heap.size (by simp only [World.size_alloc]; omega)).trans (((pu_alloc _ _).block w.heap.size (by simp only [World.size_alloc]; omega)).trans B1.out)); have q0 : w1.cell? ⟨w.heap.size, 0, none⟩ = some (.int .i64 1) := cell_of_blk R1; have q4 : w1.cell? ⟨w.heap.size, 4, none⟩ = some (.int .i64 fl) := cell_of_blk R1; clear R1; have hsz : w.heap.size + 2 ≤ w1.heap.size := (by have := hb1.size; simp only [World.size_alloc] at this; omega); have hO := own_pu (one_own _ p) hb1; rw [World.size_alloc] at hO; have HO := Lib.hid hO; clear hO; have HB1 := Lib.hid hb1; clear hb1)
    | (at_builtin; refine wpList_append_own _ rfl (.tmp 27) (.tmp 29) 55 rfl (w.heap.size + 1) 9 i0 _ 1 16 Tryz.underlying55 Hi.out hz0 hz1 hz2 rfl (by decide) (.slice (some ⟨w.heap.size + 1, 0, none⟩) 1 1) _ _ rfl (own_pu HO.out (pu_alloc _ _)) ⟨w1.heap.size, 0, none⟩ 1 1 [.string (mkB up)] rfl rfl (news_at (al1 w1 _)) (by intro u hu; simp at hu; subst hu; rfl) (by unfold maxLen; first | omega | simp) (by first | omega | simp) (by first | omega | (simp; omega) | simp) ?_; intro v' w7 hown' hgrow _))
  go_ret
  have h1 := (P1.out.tr (pu_alloc _ _)).tr HB1.out
  exact ⟨_, rfl, SlS.of_own (l := [p, up]) (by simpa [strV] using hown'), (h1.tr (pu_alloc _ _)).grown hgrow (by simp only [World.size_alloc]; omega) (fun b hb => Nat.le_trans (Nat.le_succ _) (own_ge HO.out b hb))⟩

theorem wants_any (o : OpD) (w : World) (hp : o.path.length ≤ 1000000) (hg : Gl w) :
    Calls Tryz.prog 51 #[o.val] w (RetS 9 w (wantsO o)) := by
  cases hu : parent o.path with
  | none => exact wants_one o w hp hg (.inl hu)
  | some up =>
    by_cases hk : o.kind = 1
    · cases hs : seqB o.flags
      · exact wants_one o w hp hg (.inr (.inr hs))
      · exact wants_two o w hp hg up hu hk hs
    · exact wants_one o w hp hg (.inr (.inl hk))

set_option maxHeartbeats 1000000 in
set_option maxRecDepth 100000 in
theorem busy1_any {N : Nat} (id : Int) (s : Str) (p1 p2 : Nat) (w : World) (h : PartIn w pb A P) (ho : PartOk N P) (hg : Gl w) (hs : s.length ≤ 1000000) (h1 : w.cell? ⟨p1, 0, none⟩ = some (.pointer (some ⟨pb, 0, none⟩))) (h2 : w.cell? ⟨p2, 0, none⟩ = some (.int .i64 id)) :
    Calls Tryz.prog 90 #[.string (mkB s), .pointer (some ⟨p1, 0, none⟩), .pointer (some ⟨p2, 0, none⟩)] w fun e w' => e = .returned (.bool (blocksB P.locks id s)) ∧ Pu w w' := by
  obtain ⟨c0, c1, c2, c3, c4, c5, c6⟩ := h.cells
  have H := Lib.hid h
  have HL := Lib.hid ho.locks
  have Hg := Lib.hid hg
  clear h ho hg
  go_enter Tryz.func90, Tryz.ntmps90
  go_wp2
  go_still_tail 6, (by kernel_rfl)
  change wpList _ _ _ _ _ w.drew
  go_wp2_with (go_at_call 91; refine (blocks_any A.lb A.lm P.locks id s w.drew ⟨H.out.locks.box, H.out.locks.map⟩ HL.out hs Hg.out).mono ?_; rintro e w1 ⟨rfl, hb0⟩; have hb1 : Pu w w1 := ⟨hb0.os, hb0.tape, hb0.output, hb0.size, fun b h => hb0.block b h⟩; have HB1 := Lib.hid hb1; clear hb1 hb0)
  go_ret
  exact ⟨rfl, HB1.out⟩


/-- The first that is blocked. -/
def idxB (L : LocksD) (id : Int) (l : List Str) : Int := match l.findIdx? (fun s => blocksB L id s) with
  | some i => i
  | none => -1

set_option maxHeartbeats 1000000 in
set_option maxRecDepth 100000 in
theorem idxBusy_any {N : Nat} (id : Int) (l : List Str) (v : Value) (p1 p2 : Nat) (w : World) (h : PartIn w pb A P) (ho : PartOk N P) (hg : Gl w) (hv : SlS 9 w v l) (hl : l.length ≤ 1000000) (hs : ∀ s ∈ l, s.length ≤ 1000000) (h1 : w.cell? ⟨p1, 0, none⟩ = some (.pointer (some ⟨pb, 0, none⟩))) (h2 : w.cell? ⟨p2, 0, none⟩ = some (.int .i64 id)) (hp1 : p1 < w.heap.size) (hp2 : p2 < w.heap.size) :
    Calls Tryz.prog 124 #[v, .func (.func 90) #[] #[.pointer (some ⟨p1, 0, none⟩), .pointer (some ⟨p2, 0, none⟩)]] w fun e w' => e = .returned (.int .i64 (idxB P.locks id l)) ∧ Pu w w' := by
  by_cases h0 : 0 < l.length
  · obtain ⟨b, off, cap, rfl, hcap, hblt, H4⟩ := hv.pos h0
    have H := Lib.hid h; have Ho := Lib.hid ho; have Hg := Lib.hid hg
    have C1 := Lib.hid h1; have C2 := Lib.hid h2; have HC := Lib.hid H4; have HS := Lib.hid hs
    obtain ⟨n, hn⟩ : ∃ n, n = l.length := ⟨_, rfl⟩
    rw [← hn] at hl h0 hcap ⊢
    have HN := Lib.hid hn
    clear h ho hg h1 h2 H4 hs hv hn
    go_enter Tryz.func124, Tryz.ntmps124
    go_wp2
    go_loopw [8] (fun i wr => ∃ k : Nat, k ≤ n ∧ i = .int .i64 k ∧ Hid (Pu w wr) ∧ Hid ((l.take k).findIdx? (fun s => blocksB P.locks id s) = none)) (fun i _ => n - (intOf i).toNat)
    case atStart => exact ⟨0, Nat.zero_le _, rfl, Lib.hid (Below.refl _ _), Lib.hid (by simp)⟩
    case round =>
      obtain ⟨k, hk, rfl, HB, HF⟩ := hrel
      by_cases hlt : k < n
      · have hk2 : k < l.length := by have := HN.out; omega
        have c0 := ((bcell HB.out).1 b (off + k) hblt).trans (HC.out k hk2)
        have C1r := Lib.hid (((bcell HB.out).1 p1 0 hp1).trans C1.out)
        have C2r := Lib.hid (((bcell HB.out).1 p2 0 hp2).trans C2.out)
        obtain ⟨s, hs⟩ : ∃ s, s = l[k] := ⟨_, rfl⟩
        rw [← hs] at c0
        have hsl : s.length ≤ 1000000 := HS.out s (by rw [hs]; exact List.getElem_mem _)
        have Hs := Lib.hid hs
        clear hs
        cases hr : blocksB P.locks id s
        all_goals
          have Hr := Lib.hid hr; clear hr
          go_wp2_with (go_at_call 90; refine (busy1_any id s p1 p2 _ (H.out.pu HB.out) Ho.out (Hg.out.pu HB.out) hsl C1r.out C2r.out).mono ?_; rw [Hr.out]; rintro e w1 ⟨rfl, hb1⟩; have HB1 := Lib.hid hb1; clear hb1)
        · go_roundw
          case rel => exact ⟨k + 1, by omega, by go_num, Lib.hid (HB.out.tr HB1.out), Lib.hid (by rw [List.take_succ_eq_append_getElem hk2, List.findIdx?_append, HF.out, ← Hs.out]; simp [Hr.out])⟩
          case measure => simp [intOf]; omega
        · go_ret
          refine ⟨ret_int ?_, HB.out.tr HB1.out⟩
          have : l.findIdx? (fun s => blocksB P.locks id s) = some k := by
            rw [List.findIdx?_eq_some_iff_getElem]
            refine ⟨hk2, by rw [← Hs.out]; exact Hr.out, fun j hj => ?_⟩
            have h5 := HF.out
            rw [List.findIdx?_eq_none_iff] at h5
            have := h5 l[j] (by rw [List.mem_take_iff_getElem]; exact ⟨j, by omega, rfl⟩)
            simpa using this
          rw [idxB, this]
      · have hk' : k = n := by omega
        have e1 : l.findIdx? (fun s => blocksB P.locks id s) = none := by have := HF.out; rwa [hk', HN.out, List.take_length] at this
        have E1 := Lib.hid e1
        clear e1 hk'
        go_wp2
        go_ret
        exact ⟨by rw [idxB, E1.out]; rfl, HB.out⟩
  · obtain rfl : l = [] := List.length_eq_zero_iff.1 (by omega)
    obtain ⟨a, cap, rfl, _⟩ := hv.zero
    go_enter Tryz.func124, Tryz.ntmps124
    go_wp2
    refine wp_loop_rounds 1 ?_; rw [rounds_succ]
    go_wp2
    go_ret
    exact ⟨rfl, Below.refl _ _⟩

theorem idxB_any (L : LocksD) (id : Int) (l : List Str) : decide (0 ≤ idxB L id l) = l.any (fun s => blocksB L id s) := by
  unfold idxB
  cases hf : l.findIdx? (fun s => blocksB L id s) with
  | some i =>
    obtain ⟨hi, h1, _⟩ := List.findIdx?_eq_some_iff_getElem.1 hf
    rw [List.any_eq_true.2 ⟨_, List.getElem_mem hi, h1⟩]; simp
  | none =>
    rw [List.findIdx?_eq_none_iff] at hf
    rw [List.any_eq_false.2 (by simpa using hf)]; simp

set_option maxHeartbeats 1000000 in
set_option maxRecDepth 100000 in
theorem conBusy_any {N : Nat} (id : Int) (l : List Str) (v : Value) (p1 p2 : Nat) (w : World) (h : PartIn w pb A P) (ho : PartOk N P) (hg : Gl w) (hv : SlS 9 w v l) (hl : l.length ≤ 1000000) (hs : ∀ s ∈ l, s.length ≤ 1000000) (h1 : w.cell? ⟨p1, 0, none⟩ = some (.pointer (some ⟨pb, 0, none⟩))) (h2 : w.cell? ⟨p2, 0, none⟩ = some (.int .i64 id)) (hp1 : p1 < w.heap.size) (hp2 : p2 < w.heap.size) :
    Calls Tryz.prog 89 #[v, .func (.func 90) #[] #[.pointer (some ⟨p1, 0, none⟩), .pointer (some ⟨p2, 0, none⟩)]] w fun e w' => e = .returned (.bool (l.any fun s => blocksB P.locks id s)) ∧ Pu w w' := by
  have H := Lib.hid h; have Ho := Lib.hid ho; have Hg := Lib.hid hg; have Hv := Lib.hid hv; have HS := Lib.hid hs; have C1 := Lib.hid h1; have C2 := Lib.hid h2
  clear h ho hg hv hs h1 h2
  have E := Lib.hid (idxB_any P.locks id l)
  go_enter Tryz.func89, Tryz.ntmps89
  go_wp2_with (go_at_call 124; refine (idxBusy_any id l _ p1 p2 _ H.out Ho.out Hg.out Hv.out hl HS.out C1.out C2.out hp1 hp2).mono ?_; rintro e w1 ⟨rfl, hb1⟩; have HB1 := Lib.hid hb1; clear hb1)
  go_ret
  exact ⟨ret_bool E.out, HB1.out⟩

end Go.Proofs.YtmigbgfgnhkmnaaGreatDoor

/- Package part: busy. -/
namespace Go.Proofs.YtmigbgfgnhkmnaaGreatDoor
open Go.RowKit Go.Av Go.Maps Go.Sort

attribute [local go_sem ↓] Go.wp_at_zero Go.wp_at_succ
attribute [local go_sem] run_makeMap

variable {w w' : World} {pb : Nat} {A : PL} {P : PartD}

theorem wantsO_len {o : OpD} (h : good o.path = true) : ∀ s ∈ wantsO o, s.length ≤ 1000000 := by
  have h1 := good_len h
  unfold wantsO
  intro s hs
  split at hs
  · rename_i up hup
    have h2 := parent_len hup
    split at hs
    · simp at hs; rcases hs with rfl | rfl <;> omega
    · simp at hs; subst hs; omega
  · simp at hs; subst hs; omega
def BusyR (w : World) (P : PartD) (id sess : Int) (l : List OpD) (e : Ending) (w' : World) : Prop := e = .returned (.tuple #[.int .i64 (busyP P id sess l).1, .int .i64 (busyP P id sess l).2]) ∧ Pu w w'
theorem BusyR.of {a : Int × Int} {id sess : Int} {l : List OpD} {e : Ending} (ha : busyP P id sess l = a) (he : e = .returned (.tuple #[.int .i64 a.1, .int .i64 a.2])) (hp : Pu w w') : BusyR w P id sess l e w' := by
  subst ha; exact ⟨he, hp⟩

set_option maxHeartbeats 1000000 in
set_option maxRecDepth 100000 in
theorem busy_shut {N : Nat} (id sess : Int) (l : List OpD) (v : Value) (w : World) (h : PartIn w pb A P) (ho : PartOk N P) (hi : i64 sess) (hs : isIn sess P.closed = true ∨ closingB P sess = true) :
    Calls Tryz.prog 45 #[.pointer (some ⟨pb, 0, none⟩), .int .i64 id, .int .i64 sess, v] w (BusyR w P id sess l) := by
  have P2 := (pu_alloc w (.cells #[.pointer (some ⟨pb, 0, none⟩)] 24)).tr (pu_alloc _ (.cells #[.int .i64 id] 2))
  obtain ⟨c0, c1, c2, c3, c4, c5, c6⟩ := (h.pu P2).cells
  have hl := (h.pu P2).look_clo sess hi
  have H := Lib.hid h; have Ho := Lib.hid ho; have HP2 := Lib.hid P2
  have hpl : pb < w.heap.size := lt_of_blk h.box
  clear h ho P2 hi
  cases hc : isIn sess P.closed
  · have hcl : closingB P sess = true := by
      rcases hs with h | h
      · rw [hc] at h; cases h
      · exact h
    rw [hc] at hl
    have Hb := Lib.hid (show busyP P id sess l = (12, -1) by simp [busyP, hc, hcl])
    have Hcl := Lib.hid hcl
    clear hc hcl hs
    go_enter Tryz.func45, Tryz.ntmps45
    go_wp2_with (go_at_call 88; refine (closing_any sess _ (H.out.pu HP2.out) Ho.out).mono ?_; rw [Hcl.out]; rintro e w1 ⟨rfl, hb1⟩; have HB1 := Lib.hid hb1; clear hb1)
    go_ret2
    exact BusyR.of Hb.out rfl (HP2.out.tr HB1.out)
  · rw [hc] at hl
    have Hb := Lib.hid (show busyP P id sess l = (11, -1) by simp [busyP, hc])
    clear hc hs
    go_enter Tryz.func45, Tryz.ntmps45
    go_wp2
    go_ret2
    exact BusyR.of Hb.out rfl HP2.out

set_option maxHeartbeats 2000000 in
set_option maxRecDepth 100000 in
theorem busy_open {N : Nat} {tO : TypeId} (id sess : Int) (l : List OpD) (v : Value) (w : World) (h : PartIn w pb A P) (ho : PartOk N P) (hN : N ≤ 1000) (hg : Gl w) (hv : SlO tO w v l) (hl : l.length ≤ 16) (hp : ∀ o ∈ l, good o.path = true) (hi : i64 sess) (hs1 : isIn sess P.closed = false) (hs2 : closingB P sess = false) (hpos : 0 < l.length) :
    Calls Tryz.prog 45 #[.pointer (some ⟨pb, 0, none⟩), .int .i64 id, .int .i64 sess, v] w (BusyR w P id sess l) := by
  obtain ⟨b, off, cap, rfl, hcap, hblt, H4⟩ := hv.pos hpos
  obtain ⟨W2, hW2⟩ : ∃ W2, W2 = (w.alloc (.cells #[.pointer (some ⟨pb, 0, none⟩)] 24)).alloc (.cells #[.int .i64 id] 2) := ⟨_, rfl⟩
  have P2 : Pu w W2 := by rw [hW2]; exact (pu_alloc w _).tr (pu_alloc _ _)
  have b1 : W2.cell? ⟨w.heap.size, 0, none⟩ = some (.pointer (some ⟨pb, 0, none⟩)) := by rw [hW2]; exact cell_of_blk (al2a w _ _)
  have b2 : W2.cell? ⟨w.heap.size + 1, 0, none⟩ = some (.int .i64 id) := by rw [hW2]; exact cell_of_blk (al2b w _ _)
  have hsz : W2.heap.size = w.heap.size + 2 := by rw [hW2]; simp
  obtain ⟨c0, c1, c2, c3, c4, c5, c6⟩ := (h.pu P2).cells
  have hlk := (h.pu P2).look_clo sess hi
  rw [hs1] at hlk
  have hpl : pb < w.heap.size := lt_of_blk h.box
  have HB1 := Lib.hid b1; have HB2 := Lib.hid b2; have HP2 := Lib.hid P2; have HW2 := Lib.hid hW2; have HSZ := Lib.hid hsz
  have H := Lib.hid h; have Ho := Lib.hid ho; have Hg := Lib.hid hg; have HPg := Lib.hid hp; have HC := Lib.hid H4
  have Hs2 := Lib.hid hs2
  have Hbz : Hid (busyP P id sess l = match blockedAt P.locks id l with
    | some i => (12, (i : Int))
    | none => if 0 < createsN l ∧ 0 < wantedP P ∧ P.room < (wantedP P : Int) + P.tree.nodes.length + createsN l then (12, (firstC l : Int)) else (0, -1)) := Lib.hid (by rw [busyP, if_neg (by rw [hs1]; simp), if_neg (by rw [hs2]; simp)]; rfl)
  have hcr : createsN l ≤ 16 := Nat.le_trans (createsN_le l) hl
  have hwd : wantedP P ≤ 16000 := by have := wantedW_le ho.opn; have := ho.waitn; unfold wantedP; omega
  have htl : P.tree.nodes.length ≤ 500 := by have := ho.tree.many; have := ho.tree.room1; omega
  have hrm : P.room ≤ 500 ∧ 1 ≤ P.room := by have := ho.tree.room1; have := ho.tree.room0; have := ho.room; omega
  obtain ⟨n, hn⟩ : ∃ n, n = l.length := ⟨_, rfl⟩
  rw [← hn] at hl hpos hcap hv ⊢
  have HN := Lib.hid hn
  have HV := Lib.hid hv
  clear h ho hg hv hp H4 hs1 hs2 hn P2 b1 b2 hi hsz
  rw [hW2] at hlk c0 c1 c2 c3 c4 c5 c6
  clear hW2
  go_enter Tryz.func45, Tryz.ntmps45
  go_wp2_with (go_at_call 88; rw [← HW2.out]; refine (closing_any sess _ (H.out.pu HP2.out) Ho.out).mono ?_; rw [Hs2.out]; rintro e w1 ⟨rfl, hb1⟩; have HQ1 := Lib.hid hb1; clear hb1)
  clear hlk c0 c1 c2 c3 c4 c5 c6
  go_loopw [28] (fun i wr => ∃ k : Nat, k ≤ n ∧ i = .int .i64 k ∧ Hid (Pu W2 wr) ∧ Hid ((l.take k).findIdx? (blockedO P.locks id) = none)) (fun i _ => n - (intOf i).toNat)
  case atStart => exact ⟨0, Nat.zero_le _, rfl, HQ1, Lib.hid (by simp)⟩
  case round =>
    obtain ⟨k, hk, rfl, HB, HF⟩ := hrel
    have HPw := Lib.hid (HP2.out.tr HB.out)
    have hszr : w.heap.size + 2 ≤ wr.heap.size := by have := HB.out.size; have := HSZ.out; omega
    have d1 := ((bcell HB.out).1 w.heap.size 0 (by have := HSZ.out; omega)).trans HB1.out
    have d2 := ((bcell HB.out).1 (w.heap.size + 1) 0 (by have := HSZ.out; omega)).trans HB2.out
    by_cases hlt : k < n
    · have hk2 : k < l.length := by have := HN.out; omega
      obtain ⟨x0, x1, x2, x3, x4⟩ := HC.out k hk2
      have hc := (bcell HPw.out).1
      obtain ⟨o, ho⟩ : ∃ o, o = l[k] := ⟨_, rfl⟩
      rw [← ho] at x0 x1 x2 x3 x4
      have y0 := (hc b (off + k * 5) hblt).trans x0
      have y1 := (hc b (off + k * 5 + 1) hblt).trans x1
      have y2 := (hc b (off + k * 5 + 2) hblt).trans x2
      have y3 := (hc b (off + k * 5 + 3) hblt).trans x3
      have y4 := (hc b (off + k * 5 + 4) hblt).trans x4
      have hblt2 : b < wr.heap.size := by omega
      have hgo : good o.path = true := HPg.out o (by rw [ho]; exact List.getElem_mem _)
      have hgl := good_len hgo
      have HWl := Lib.hid (wantsO_len hgo)
      have hw2 := wantsO_two o
      have HO := Lib.hid ho
      have D1 := Lib.hid d1; have D2 := Lib.hid d2
      have HGr := Lib.hid ((Hg.out.pu HPw.out).pu (pu_alloc wr (.cells #[.int .i64 o.kind, .string (mkB o.path), .string (mkB o.data), .int .i64 o.version, .int .i64 o.flags] 50)))
      clear hc x0 x1 x2 x3 x4 ho hgo
      cases hbo : blockedO P.locks id o
      all_goals
        have Hbo := Lib.hid hbo
        have Hbo2 : Hid ((wantsO o).any (fun s => blocksB P.locks id s) = _) := Lib.hid hbo
        clear hbo
        go_wp2_with (first
          | (go_at_call 51; refine (wants_any o _ (by omega) HGr.out).mono ?_; rintro e w3 ⟨wv, rfl, hwv, hb3⟩; obtain ⟨wa, wc, rfl⟩ := hwv.len; have HWV := Lib.hid hwv; have HB3 := Lib.hid ((pu_alloc _ _).tr hb3); have E1 := Lib.hid (((bcell HB3.out).1 w.heap.size 0 (by omega)).trans D1.out); have E2 := Lib.hid (((bcell HB3.out).1 (w.heap.size + 1) 0 (by omega)).trans D2.out); have hs3 := HB3.out.size; clear hwv hb3)
          | (go_at_call 89; refine (conBusy_any id (wantsO o) _ w.heap.size (w.heap.size + 1) _ ((H.out.pu HPw.out).pu HB3.out) Ho.out ((Hg.out.pu HPw.out).pu HB3.out) HWV.out (by omega) HWl.out E1.out E2.out (by omega) (by omega)).mono ?_; rw [Hbo2.out]; rintro e w4 ⟨rfl, hb4⟩; have HB4 := Lib.hid hb4; clear hb4))
      · go_roundw
        case rel => exact ⟨k + 1, by omega, by go_num, Lib.hid ((HB.out.tr HB3.out).tr HB4.out), Lib.hid (by rw [List.take_succ_eq_append_getElem hk2, List.findIdx?_append, HF.out, ← HO.out]; simp [Hbo.out])⟩
        case measure => simp [intOf]; omega
      · go_ret2
        refine BusyR.of (a := (12, (k : Int))) ?_ rfl ((HPw.out.tr HB3.out).tr HB4.out)
        have : blockedAt P.locks id l = some k := by
          unfold blockedAt
          rw [List.findIdx?_eq_some_iff_getElem]
          refine ⟨hk2, by rw [← HO.out]; exact Hbo.out, fun j hj => ?_⟩
          have h5 := HF.out
          rw [List.findIdx?_eq_none_iff] at h5
          have := h5 l[j] (by rw [List.mem_take_iff_getElem]; exact ⟨j, by omega, rfl⟩)
          simpa using this
        rw [Hbz.out, this]
    · have hk' : k = n := by omega
      have e1 : blockedAt P.locks id l = none := by have := HF.out; rwa [hk', HN.out, List.take_length] at this
      have Hbz2 : Hid (busyP P id sess l = if 0 < createsN l ∧ 0 < wantedP P ∧ P.room < (wantedP P : Int) + P.tree.nodes.length + createsN l then (12, (firstC l : Int)) else (0, -1)) := Lib.hid (by rw [Hbz.out, e1])
      clear e1 hk' Hbz
      obtain ⟨c, hc⟩ : ∃ c, c = createsN l := ⟨_, rfl⟩
      obtain ⟨f, hf⟩ : ∃ f, f = firstC l := ⟨_, rfl⟩
      obtain ⟨q, hq⟩ : ∃ q, q = wantedP P := ⟨_, rfl⟩
      obtain ⟨t, ht⟩ : ∃ t, t = P.tree.nodes.length := ⟨_, rfl⟩
      have Hc := Lib.hid hc; have Hf := Lib.hid hf; have Hq := Lib.hid hq; have Ht := Lib.hid ht
      rw [← hc] at hcr
      rw [← hq] at hwd
      rw [← ht] at htl
      have Hbz3 : Hid (busyP P id sess l = if 0 < c ∧ 0 < q ∧ P.room < (q : Int) + t + c then (12, (f : Int)) else (0, -1)) := Lib.hid (by rw [Hbz2.out, hc, hf, hq, ht])
      clear hc hf hq ht Hbz2
      have D1 := Lib.hid d1
      clear d2 HF
      go_wp2_with (first
        | (go_at_call 60; refine (creates_any l _ _ (HV.out.pu HPw.out) (by have := HN.out; omega)).mono ?_; rw [← Hc.out, ← Hf.out]; rintro e w3 ⟨rfl, hb3⟩; have e1 : w3.cell? ⟨w.heap.size, 0, none⟩ = some (.pointer (some ⟨pb, 0, none⟩)) := ((bcell hb3).1 w.heap.size 0 (by omega)).trans D1.out; have E1 := Lib.hid e1; have hs3 := hb3.size; have HB3 := Lib.hid hb3; clear hb3)
        | (go_at_call 18; refine (wanted_any _ ((H.out.pu HPw.out).pu HB3.out) Ho.out hN).mono ?_; rw [← Hq.out]; rintro e w4 ⟨rfl, hb4⟩; have e2 : w4.cell? ⟨w.heap.size, 0, none⟩ = some (.pointer (some ⟨pb, 0, none⟩)) := ((bcell hb4).1 w.heap.size 0 (by omega)).trans E1.out; obtain ⟨g0, g1, _, _, _, _, _⟩ := (((H.out.pu HPw.out).pu HB3.out).pu hb4).cells; have HB4 := Lib.hid hb4; clear hb4))
      have HPz := Lib.hid ((HPw.out.tr HB3.out).tr HB4.out)
      by_cases hc0 : c = 0
      · subst hc0
        go_quiet ((go_at_call 24; exact Calls.quiet_of_same ((lenT_any _ (((((H.out.pu HPw.out).pu HB3.out).pu HB4.out).tree).pu (pu_drewN _ _))).mono fun _ _ ⟨a, b⟩ => ⟨by rw [a, ← Ht.out], b.symm⟩)))
        go_wp2
        go_ret2
        exact BusyR.of (a := (0, -1)) (by rw [Hbz3.out, if_neg (by omega)]) rfl (HPz.out.tr (pu_drewN _ _))
      · by_cases hq0 : q = 0
        · subst hq0
          have hc1 : 0 < c := by omega
          go_quiet ((go_at_call 24; exact Calls.quiet_of_same ((lenT_any _ (((((H.out.pu HPw.out).pu HB3.out).pu HB4.out).tree).pu (pu_drewN _ _))).mono fun _ _ ⟨a, b⟩ => ⟨by rw [a, ← Ht.out], b.symm⟩)))
          go_wp2
          go_ret2
          exact BusyR.of (a := (0, -1)) (by rw [Hbz3.out, if_neg (by omega)]) rfl (HPz.out.tr (pu_drewN _ _))
        · have hc1 : 0 < c := by omega
          have hq1 : 0 < q := by omega
          obtain ⟨rm, hrm2⟩ : ∃ rm, rm = P.room := ⟨_, rfl⟩
          rw [← hrm2] at hrm g0
          have Hbz4 : Hid (busyP P id sess l = if 0 < c ∧ 0 < q ∧ rm < (q : Int) + t + c then (12, (f : Int)) else (0, -1)) := Lib.hid (by rw [Hbz3.out, hrm2])
          clear hrm2 Hbz3
          have i1 : IntKind.i64.wrap ((q : Int) + (t : Int)) = (q : Int) + (t : Int) := IntWalk.i64_in _ (by omega)
          have i2 : IntKind.i64.wrap ((q : Int) + (t : Int) + (c : Int)) = (q : Int) + (t : Int) + (c : Int) := IntWalk.i64_in _ (by omega)
          by_cases hfull : rm < (q : Int) + t + c
          · go_quiet ((go_at_call 24; exact Calls.quiet_of_same ((lenT_any _ (((((H.out.pu HPw.out).pu HB3.out).pu HB4.out).tree).pu (pu_drewN _ _))).mono fun _ _ ⟨a, b⟩ => ⟨by rw [a, ← Ht.out], b.symm⟩)))
            clear i1 i2
            go_wp2
            go_ret2
            exact BusyR.of (a := (12, (f : Int))) (by rw [Hbz4.out, if_pos ⟨hc1, hq1, hfull⟩]) rfl (HPz.out.tr (pu_drewN _ _))
          · have hfd : decide (rm < (q : Int) + t + c) = false := by simpa using hfull
            go_quiet ((go_at_call 24; exact Calls.quiet_of_same ((lenT_any _ (((((H.out.pu HPw.out).pu HB3.out).pu HB4.out).tree).pu (pu_drewN _ _))).mono fun _ _ ⟨a, b⟩ => ⟨by rw [a, ← Ht.out], b.symm⟩)))
            clear i1 i2
            go_wp2
            go_ret2
            exact BusyR.of (a := (0, -1)) (by rw [Hbz4.out, if_neg (fun h => by have := h.2.2; omega)]) rfl (HPz.out.tr (pu_drewN _ _))

theorem busy_any {N : Nat} {tO : TypeId} (id sess : Int) (l : List OpD) (v : Value) (w : World) (h : PartIn w pb A P) (ho : PartOk N P) (hN : N ≤ 1000) (hg : Gl w) (hv : SlO tO w v l) (hl : l.length ≤ 16) (hp : ∀ o ∈ l, good o.path = true) (hi : i64 sess) (hpos : 0 < l.length) :
    Calls Tryz.prog 45 #[.pointer (some ⟨pb, 0, none⟩), .int .i64 id, .int .i64 sess, v] w (BusyR w P id sess l) := by
  cases h1 : isIn sess P.closed
  · cases h2 : closingB P sess
    · exact busy_open id sess l v w h ho hN hg hv hl hp hi h1 h2 hpos
    · exact busy_shut id sess l v w h ho hi (.inr h2)
  · exact busy_shut id sess l v w h ho hi (.inl h1)

theorem may_ok {r : Req} (h : may r = 0) : 1 ≤ r.sess ∧ 1 ≤ r.num ∧ 0 < r.ops.length ∧ r.ops.length ≤ 16 ∧ (∀ o ∈ r.ops, opGood o = 0) ∧ ∀ o ∈ r.ops, good o.path = true := by
  unfold may at h
  split at h
  · cases h
  · rename_i h1
    split at h
    · cases h
    · rename_i h2
      split at h
      · rename_i h3; exact absurd h h3
      · rename_i h3
        have h3 : firstBad r.ops = 0 := by simpa using h3
        have hb : ∀ (l : List OpD), firstBad l = 0 → ∀ o ∈ l, opGood o = 0 := by
          intro l
          induction l with
          | nil => intro _ o ho; cases ho
          | cons a r ih =>
            intro h o ho
            unfold firstBad at h
            split at h
            · rename_i q; exact absurd h q
            · rename_i q
              rcases List.mem_cons.1 ho with rfl | ho
              · simpa using q
              · exact ih h o ho
        have hne : r.ops ≠ [] := fun e => h1 (.inr (.inr e))
        refine ⟨by omega, by omega, List.length_pos_iff.2 hne, by omega, hb _ h3, fun o ho => opGood_good (hb _ h3 o ho)⟩

end Go.Proofs.YtmigbgfgnhkmnaaGreatDoor
