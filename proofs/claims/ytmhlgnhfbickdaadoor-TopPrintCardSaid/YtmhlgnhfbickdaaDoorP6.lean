/-
  The reference's steps, one at a time. Conditions: a place of each print.
-/
import Derived.Test.YtmhlgnhfbickdaaDoorP2
namespace Go.Proofs.YtmhlgnhfbickdaaDoor
set_option linter.unusedVariables false
set_option linter.unusedSimpArgs false
open Go.RowKit Go.Shelf

def okS (S T : List UInt8) (i k : Nat) : Nat → Bool
  | 1 => decide (i < S.length) && (decide (k < T.length) && decide (S[i]? = T[k]?))
  | 2 => decide (i < S.length) && (decide (k < T.length) && !decide (S[i]? = T[k]?))
  | 3 => decide (i < S.length)
  | 4 => decide (k < T.length)
  | _ => false
def coS (p c : Int) : Nat → Int
  | 1 => 0
  | 2 => c
  | _ => p
def diS : Nat → Nat
  | 4 => 0
  | _ => 1
def dkS : Nat → Nat
  | 3 => 0
  | _ => 1
def seg (S T : List UInt8) (p c : Int) (i k e : Nat) : List St := if okS S T i k e then [((e : Int), ((i + diS e : Nat) : Int), ((k + dkS e : Nat) : Int), coS p c e)] else []
def uptoS (S T : List UInt8) (p c : Int) (i k n : Nat) : List St := (List.range n).flatMap fun e => seg S T p c i k (e + 1)
theorem uptoS_succ (S T : List UInt8) (p c : Int) (i k n : Nat) : uptoS S T p c i k (n + 1) = uptoS S T p c i k n ++ seg S T p c i k (n + 1) := by
  unfold uptoS
  rw [List.range_succ, List.flatMap_append, List.flatMap_singleton]
theorem stepsL_upto (S T : List UInt8) (p c : Int) (i k : Nat) : stepsL S T p c i k = uptoS S T p c i k 4 := by
  rw [uptoS_succ, uptoS_succ, uptoS_succ, uptoS_succ]
  unfold stepsL uptoS seg okS coS diS dkS
  by_cases h1 : i < S.length <;> by_cases h2 : k < T.length <;> by_cases h3 : S[i]? = T[k]? <;> simp only [h1, h2, h3] <;> simp

set_option maxRecDepth 100000 in
set_option maxHeartbeats 2000000 in
/-- skimmerref09.step -/
theorem rstep_any (s t : ByteArray) (i k : Nat) (e : Nat) (p c : Int) (w : World) (hs : s.size ≤ 1000000) (ht : t.size ≤ 1000000) (hi : i ≤ s.size) (hk : k ≤ t.size) (he : 1 ≤ e ∧ e ≤ 4) :
    Calls Tryd.prog 71 #[.string s, .string t, .int .i64 (i : Int), .int .i64 (k : Int), .int .i64 (e : Int), .agg #[.int .i64 p, .int .i64 c]] w fun en w' =>
      en = .returned (.tuple #[.int .i64 (coS p c e), .int .i64 (diS e : Int), .int .i64 (dkS e : Int), .bool (okS s.data.toList t.data.toList i k e)]) ∧ Below w.heap.size w w' := by
  have hb := hid (box_bel w (.cells #[.int .i64 p, .int .i64 c] 24))
  have ls : s.data.toList.length = s.size := by simp
  have lt : t.data.toList.length = t.size := by simp
  have hcases : e = 1 ∨ e = 2 ∨ e = 3 ∨ e = 4 := by omega
  by_cases h1 : i < s.size
  · by_cases h2 : k < t.size
    · have g1 : s.data.toList[i]? = some s[i] := by rw [List.getElem?_eq_getElem (by simpa using h1)]; rfl
      have g2 : t.data.toList[k]? = some t[k] := by rw [List.getElem?_eq_getElem (by simpa using h2)]; rfl
      by_cases h3 : s[i] = t[k]
      · have G : Hid (decide (s.data.toList[i]? = t.data.toList[k]?) = true) := hid (by rw [g1, g2, h3]; simp)
        have d3 : ((s[i].toNat : Int) == (t[k].toNat : Int)) = true := by rw [h3]; simp
        have d4 : ((s[i].toNat : Int) != (t[k].toNat : Int)) = false := by rw [h3]; simp
        clear h3 g1 g2
        have K1 : Hid (okS s.data.toList t.data.toList i k 1 = true) := hid (by unfold okS; simp only [ls, lt, G.out]; simp [h1, h2])
        have K2 : Hid (okS s.data.toList t.data.toList i k 2 = false) := hid (by unfold okS; simp only [ls, lt, G.out]; simp [h1, h2])
        have K3 : Hid (okS s.data.toList t.data.toList i k 3 = true) := hid (by unfold okS; simp only [ls, lt, G.out]; simp [h1, h2])
        have K4 : Hid (okS s.data.toList t.data.toList i k 4 = true) := hid (by unfold okS; simp only [ls, lt, G.out]; simp [h1, h2])
        clear ls lt G
        rcases hcases with rfl | rfl | rfl | rfl
        · go_enter Tryd.func71, Tryd.ntmps71
          go_wp2
          go_quiet (fail)
          go_wp2
          refine bodyPost_ret (v := .tuple #[.int .i64 0, .int .i64 1, .int .i64 1, .bool true]) (by simp [results, Tryd.results71, go_sem]) rfl ⟨by rw [K1.out]; rfl, ?_⟩
          exact bdn hb.out _
        · go_enter Tryd.func71, Tryd.ntmps71
          go_wp2
          go_quiet (fail)
          go_wp2
          refine bodyPost_ret (v := .tuple #[.int .i64 c, .int .i64 1, .int .i64 1, .bool false]) (by simp [results, Tryd.results71, go_sem]) rfl ⟨by rw [K2.out]; rfl, ?_⟩
          exact bdn hb.out _
        · go_enter Tryd.func71, Tryd.ntmps71
          go_wp2
          refine bodyPost_ret (v := .tuple #[.int .i64 p, .int .i64 1, .int .i64 0, .bool true]) (by simp [results, Tryd.results71, go_sem]) rfl ⟨by rw [K3.out]; rfl, ?_⟩
          exact hb.out
        · go_enter Tryd.func71, Tryd.ntmps71
          go_wp2
          refine bodyPost_ret (v := .tuple #[.int .i64 p, .int .i64 0, .int .i64 1, .bool true]) (by simp [results, Tryd.results71, go_sem]) rfl ⟨by rw [K4.out]; rfl, ?_⟩
          exact hb.out
      · have hn : ¬ (s[i].toNat : Int) = (t[k].toNat : Int) := fun h => h3 (UInt8.toNat_inj.1 (by omega))
        have G : Hid (decide (s.data.toList[i]? = t.data.toList[k]?) = false) := hid (by rw [g1, g2]; simpa using h3)
        have d3 : ((s[i].toNat : Int) == (t[k].toNat : Int)) = false := by simpa using hn
        have d4 : ((s[i].toNat : Int) != (t[k].toNat : Int)) = true := by simpa using hn
        clear h3 g1 g2 hn
        have K1 : Hid (okS s.data.toList t.data.toList i k 1 = false) := hid (by unfold okS; simp only [ls, lt, G.out]; simp [h1, h2])
        have K2 : Hid (okS s.data.toList t.data.toList i k 2 = true) := hid (by unfold okS; simp only [ls, lt, G.out]; simp [h1, h2])
        have K3 : Hid (okS s.data.toList t.data.toList i k 3 = true) := hid (by unfold okS; simp only [ls, lt, G.out]; simp [h1, h2])
        have K4 : Hid (okS s.data.toList t.data.toList i k 4 = true) := hid (by unfold okS; simp only [ls, lt, G.out]; simp [h1, h2])
        clear ls lt G
        rcases hcases with rfl | rfl | rfl | rfl
        · go_enter Tryd.func71, Tryd.ntmps71
          go_wp2
          go_quiet (fail)
          go_wp2
          refine bodyPost_ret (v := .tuple #[.int .i64 0, .int .i64 1, .int .i64 1, .bool false]) (by simp [results, Tryd.results71, go_sem]) rfl ⟨by rw [K1.out]; rfl, ?_⟩
          exact bdn hb.out _
        · go_enter Tryd.func71, Tryd.ntmps71
          go_wp2
          go_quiet (fail)
          go_wp2
          refine bodyPost_ret (v := .tuple #[.int .i64 c, .int .i64 1, .int .i64 1, .bool true]) (by simp [results, Tryd.results71, go_sem]) rfl ⟨by rw [K2.out]; rfl, ?_⟩
          exact bdn hb.out _
        · go_enter Tryd.func71, Tryd.ntmps71
          go_wp2
          refine bodyPost_ret (v := .tuple #[.int .i64 p, .int .i64 1, .int .i64 0, .bool true]) (by simp [results, Tryd.results71, go_sem]) rfl ⟨by rw [K3.out]; rfl, ?_⟩
          exact hb.out
        · go_enter Tryd.func71, Tryd.ntmps71
          go_wp2
          refine bodyPost_ret (v := .tuple #[.int .i64 p, .int .i64 0, .int .i64 1, .bool true]) (by simp [results, Tryd.results71, go_sem]) rfl ⟨by rw [K4.out]; rfl, ?_⟩
          exact hb.out
    · have G : Hid (True = True) := hid rfl
      have d2 : decide (k < t.size) = false := by simp; omega
      have K1 : Hid (okS s.data.toList t.data.toList i k 1 = false) := hid (by unfold okS; simp only [ls, lt, G.out]; simp [h1, h2])
      have K2 : Hid (okS s.data.toList t.data.toList i k 2 = false) := hid (by unfold okS; simp only [ls, lt, G.out]; simp [h1, h2])
      have K3 : Hid (okS s.data.toList t.data.toList i k 3 = true) := hid (by unfold okS; simp only [ls, lt, G.out]; simp [h1, h2])
      have K4 : Hid (okS s.data.toList t.data.toList i k 4 = false) := hid (by unfold okS; simp only [ls, lt, G.out]; simp [h1, h2])
      clear ls lt G
      rcases hcases with rfl | rfl | rfl | rfl
      · go_enter Tryd.func71, Tryd.ntmps71
        go_wp2
        go_quiet (fail)
        go_wp2
        refine bodyPost_ret (v := .tuple #[.int .i64 0, .int .i64 1, .int .i64 1, .bool false]) (by simp [results, Tryd.results71, go_sem]) rfl ⟨by rw [K1.out]; rfl, ?_⟩
        exact bdn hb.out _
      · go_enter Tryd.func71, Tryd.ntmps71
        go_wp2
        go_quiet (fail)
        go_wp2
        refine bodyPost_ret (v := .tuple #[.int .i64 c, .int .i64 1, .int .i64 1, .bool false]) (by simp [results, Tryd.results71, go_sem]) rfl ⟨by rw [K2.out]; rfl, ?_⟩
        exact bdn hb.out _
      · go_enter Tryd.func71, Tryd.ntmps71
        go_wp2
        refine bodyPost_ret (v := .tuple #[.int .i64 p, .int .i64 1, .int .i64 0, .bool true]) (by simp [results, Tryd.results71, go_sem]) rfl ⟨by rw [K3.out]; rfl, ?_⟩
        exact hb.out
      · go_enter Tryd.func71, Tryd.ntmps71
        go_wp2
        refine bodyPost_ret (v := .tuple #[.int .i64 p, .int .i64 0, .int .i64 1, .bool false]) (by simp [results, Tryd.results71, go_sem]) rfl ⟨by rw [K4.out]; rfl, ?_⟩
        exact hb.out
  · by_cases h2 : k < t.size
    · have G : Hid (True = True) := hid rfl
      have d1 : decide (i < s.size) = false := by simp; omega
      have K1 : Hid (okS s.data.toList t.data.toList i k 1 = false) := hid (by unfold okS; simp only [ls, lt, G.out]; simp [h1, h2])
      have K2 : Hid (okS s.data.toList t.data.toList i k 2 = false) := hid (by unfold okS; simp only [ls, lt, G.out]; simp [h1, h2])
      have K3 : Hid (okS s.data.toList t.data.toList i k 3 = false) := hid (by unfold okS; simp only [ls, lt, G.out]; simp [h1, h2])
      have K4 : Hid (okS s.data.toList t.data.toList i k 4 = true) := hid (by unfold okS; simp only [ls, lt, G.out]; simp [h1, h2])
      clear ls lt G
      rcases hcases with rfl | rfl | rfl | rfl
      · go_enter Tryd.func71, Tryd.ntmps71
        go_wp2
        go_quiet (fail)
        go_wp2
        refine bodyPost_ret (v := .tuple #[.int .i64 0, .int .i64 1, .int .i64 1, .bool false]) (by simp [results, Tryd.results71, go_sem]) rfl ⟨by rw [K1.out]; rfl, ?_⟩
        exact bdn hb.out _
      · go_enter Tryd.func71, Tryd.ntmps71
        go_wp2
        go_quiet (fail)
        go_wp2
        refine bodyPost_ret (v := .tuple #[.int .i64 c, .int .i64 1, .int .i64 1, .bool false]) (by simp [results, Tryd.results71, go_sem]) rfl ⟨by rw [K2.out]; rfl, ?_⟩
        exact bdn hb.out _
      · go_enter Tryd.func71, Tryd.ntmps71
        go_wp2
        refine bodyPost_ret (v := .tuple #[.int .i64 p, .int .i64 1, .int .i64 0, .bool false]) (by simp [results, Tryd.results71, go_sem]) rfl ⟨by rw [K3.out]; rfl, ?_⟩
        exact hb.out
      · go_enter Tryd.func71, Tryd.ntmps71
        go_wp2
        refine bodyPost_ret (v := .tuple #[.int .i64 p, .int .i64 0, .int .i64 1, .bool true]) (by simp [results, Tryd.results71, go_sem]) rfl ⟨by rw [K4.out]; rfl, ?_⟩
        exact hb.out
    · have G : Hid (True = True) := hid rfl
      have d1 : decide (i < s.size) = false := by simp; omega
      have d2 : decide (k < t.size) = false := by simp; omega
      have K1 : Hid (okS s.data.toList t.data.toList i k 1 = false) := hid (by unfold okS; simp only [ls, lt, G.out]; simp [h1, h2])
      have K2 : Hid (okS s.data.toList t.data.toList i k 2 = false) := hid (by unfold okS; simp only [ls, lt, G.out]; simp [h1, h2])
      have K3 : Hid (okS s.data.toList t.data.toList i k 3 = false) := hid (by unfold okS; simp only [ls, lt, G.out]; simp [h1, h2])
      have K4 : Hid (okS s.data.toList t.data.toList i k 4 = false) := hid (by unfold okS; simp only [ls, lt, G.out]; simp [h1, h2])
      clear ls lt G
      rcases hcases with rfl | rfl | rfl | rfl
      · go_enter Tryd.func71, Tryd.ntmps71
        go_wp2
        go_quiet (fail)
        go_wp2
        refine bodyPost_ret (v := .tuple #[.int .i64 0, .int .i64 1, .int .i64 1, .bool false]) (by simp [results, Tryd.results71, go_sem]) rfl ⟨by rw [K1.out]; rfl, ?_⟩
        exact bdn hb.out _
      · go_enter Tryd.func71, Tryd.ntmps71
        go_wp2
        go_quiet (fail)
        go_wp2
        refine bodyPost_ret (v := .tuple #[.int .i64 c, .int .i64 1, .int .i64 1, .bool false]) (by simp [results, Tryd.results71, go_sem]) rfl ⟨by rw [K2.out]; rfl, ?_⟩
        exact bdn hb.out _
      · go_enter Tryd.func71, Tryd.ntmps71
        go_wp2
        refine bodyPost_ret (v := .tuple #[.int .i64 p, .int .i64 1, .int .i64 0, .bool false]) (by simp [results, Tryd.results71, go_sem]) rfl ⟨by rw [K3.out]; rfl, ?_⟩
        exact hb.out
      · go_enter Tryd.func71, Tryd.ntmps71
        go_wp2
        refine bodyPost_ret (v := .tuple #[.int .i64 p, .int .i64 0, .int .i64 1, .bool false]) (by simp [results, Tryd.results71, go_sem]) rfl ⟨by rw [K4.out]; rfl, ?_⟩
        exact hb.out
end Go.Proofs.YtmhlgnhfbickdaaDoor
