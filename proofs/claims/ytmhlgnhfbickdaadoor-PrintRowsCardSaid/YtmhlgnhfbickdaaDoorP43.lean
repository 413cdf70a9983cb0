/-
  The longest common row that comes first: the program. Conditions: none but that the prints' lengths are int's.
-/
import Derived.Laws.IdiomStrings
import Derived.Test.YtmhlgnhfbickdaaDoorP14
import Derived.Test.YtmhlgnhfbickdaaDoorP19
import Derived.Test.YtmhlgnhfbickdaaDoorP40
import Derived.Test.YtmhlgnhfbickdaaDoorP42
namespace Go.Proofs.YtmhlgnhfbickdaaDoor
set_option linter.unusedVariables false
set_option linter.unusedSimpArgs false
open Go.RowKit Go.Shelf

def u8v (b : UInt8) : Value := .int .u8 (b.toNat : Int)
theorem info5 : (Tryd.prog.info? 5).map (fun i => (i.zero, i.size, i.bytes)) = some (some (.int .u8 0), 1, 1) := by kernel_rfl
/-- a row of bytes that a list owns, as a text -/
theorem bytes_conv {w : World} {base k : Nat} {v : Value} {l : List UInt8} (h : w.ownsRow base 5 1 v k (l.map u8v)) (hk : k = l.length) : (convert 99 9 v).run Tryd.prog w = .ok (.string ⟨l.toArray⟩) w := by
  subst hk
  rcases h.2 with ⟨rfl, h0⟩ | ⟨g, cap, cur, rfl, hb, hg, hc⟩
  · have : l = [] := List.eq_nil_of_length_eq_zero h0
    subst this
    rw [run_convert_bytes_string w 99 9 5 none 0 0 Tryd.underlying99 Tryd.underlying5 Tryd.underlying9]
    simp [Conv.bytesToString]
    rfl
  · refine run_convert_bytes_back w 99 9 5 ⟨g, 0, none⟩ cap l Tryd.underlying99 Tryd.underlying5 Tryd.underlying9 fun j hj => ?_
    exact h.cells (g := g) rfl j (.int .u8 (l[j].toNat : Int)) (by simp [hj, u8v])
/-- what stands while the common row is gathered -/
structure CmR (w wr : World) (s t : ByteArray) (B : Nat) (g : Nat → Nat) (v : Value) (pre : List UInt8) : Prop where
  bo : Blk wr B 25 (rowsA (s.size + 1) (t.size + 1) 0 g)
  br : ∀ i, i ≤ s.size → Blk wr (g i) 3 (intsA (t.size + 1) fun k => lcA s.data.toList t.data.toList i k)
  own : wr.ownsRow w.heap.size 5 1 v pre.length (pre.map u8v)
  bel : Below w.heap.size w wr
section
variable {w wr wr' w1 : World} {s t : ByteArray} {B i k : Nat} {g : Nat → Nat} {v v' : Value} {pre : List UInt8}
theorem CmR.next (h : CmR w wr s t B g v pre) (hb : Below wr.heap.size wr wr') : CmR w wr' s t B g v pre :=
  ⟨h.bo.below' hb, fun i hi => (h.br i hi).below' hb, own_bel h.own hb, btr h.bel hb h.bel.size⟩
theorem CmR.app {o : Obj} {b : UInt8} (h : CmR w wr s t B g v pre) (hown' : w1.ownsRow w.heap.size 5 1 v' (pre.length + 1) (pre.map u8v ++ [u8v b])) (hgrow : (wr.alloc o).grownBy w1 v.ownBlock) :
    CmR w w1 s t B g v' (pre ++ [b]) := by
  refine ⟨own_type (h.own.alloc o) hgrow (h.bo.alloc o) (by decide), fun i hi => own_type (h.own.alloc o) hgrow ((h.br i hi).alloc o) (by decide), ?_, own_below (h.own.alloc o) hgrow (h.bel.alloc h.bel.size o) (Nat.le_refl _) (by have := h.bel.size; simp; omega)⟩
  rw [List.length_append, List.map_append]
  exact hown'
theorem CmR.at_ (h : CmR w wr s t B g v pre) (hi : i ≤ s.size) (hk : k ≤ t.size) :
    wr.cell? ⟨B, i, none⟩ = some (.slice (some ⟨g i, 0, none⟩) (t.size + 1) (t.size + 1)) ∧ wr.cell? ⟨g i, k, none⟩ = some (.int .i64 (lcA s.data.toList t.data.toList i k : Int)) :=
  ⟨(h.bo.cell i).trans ((rowsA_get (by omega)).trans (by rw [if_pos (Nat.zero_le _)])), ((h.br i hi).cell k).trans (intsA_get (by omega))⟩
end
/-- what Common answers -/
def comB (s t : ByteArray) : ByteArray := ⟨(cmA s.data.toList t.data.toList 0 0).toArray⟩
def CommonR (w : World) (s t : ByteArray) (e : Ending) (w' : World) : Prop :=
  e = .returned (.tuple #[.string (if codeV s t = 0 then comB s t else ByteArray.empty), .int .i64 (codeV s t)]) ∧ Below w.heap.size w w'
theorem codeV_val {s t : ByteArray} (h : codeV s t = 0) : valB s = true ∧ valB t = true := by
  unfold codeV at h
  split at h
  · rename_i h1; rw [Bool.and_eq_true] at h1; exact h1
  · cases h
theorem pickB_no1 {S T : List UInt8} {i k : Nat} {x : UInt8} (h : ¬ nxt S i x < S.length) : pickB S T i k x = false := by unfold pickB; rw [decide_eq_false h, Bool.false_and]
theorem pickB_no2 {S T : List UInt8} {i k : Nat} {x : UInt8} (h : ¬ nxt T k x < T.length) : pickB S T i k x = false := by unfold pickB; rw [decide_eq_false h, Bool.false_and, Bool.and_false]
theorem pickB_at {S T : List UInt8} {i k : Nat} {x : UInt8} (h : nxt S i x < S.length) (h2 : nxt T k x < T.length) : pickB S T i k x = decide (lcA S T (nxt S i x) (nxt T k x) = lcA S T i k) := by unfold pickB; rw [decide_eq_true h, decide_eq_true h2, Bool.true_and, Bool.true_and]

theorem pick_next {S T : List UInt8} {i k : Nat} {x : UInt8} (h : nxt S i x < S.length) (h2 : nxt T k x < T.length) : lcA S T (nxt S i x) (nxt T k x) = 1 + lcA S T (nxt S i x + 1) (nxt T k x + 1) := lcA_same (nxt_at h) (nxt_at h2)
set_option maxRecDepth 100000 in
set_option maxHeartbeats 4000000 in
/-- print.Common -/
theorem commonF_any (s t : ByteArray) (w : World) (hs : s.size ≤ 9223372036854775807) (ht : t.size ≤ 9223372036854775807) :
    Calls Tryd.prog 44 #[.string s, .string t] w (CommonR w s t) := by
  obtain ⟨i0, hi0, hz0, hz1, hz2⟩ := info_parts info5
  go_enter Tryd.func44, Tryd.ntmps44
  go_wp2_with fail
  refine (plain_any _).mono ?_
  rintro e w0 ⟨rfl, hb0⟩
  have HB0 := hid hb0
  clear hb0
  go_wp2_with fail
  refine (newPair_any s t 1 1 _ hs ht).mono ?_
  rintro e w1 ⟨x, y, u, v, rfl, h0, hb⟩
  have HB1 := hid (btr HB0.out hb HB0.out.size)
  clear hb HB0
  rw [codeV_P] at h0 ⊢
  by_cases hz : codeV s t = 0
  · obtain ⟨rfl, rfl, rfl, rfl⟩ := h0 hz
    obtain ⟨v1, v2⟩ := codeV_val hz
    have HZ := hid hz
    have HAB := hid (abc_mem v1)
    rw [hz]
    have s1 := (valB_true.1 v1).1
    have s2 := (valB_true.1 v2).1
    obtain ⟨s, rfl⟩ : ∃ z, z = x := ⟨_, rfl⟩
    obtain ⟨t, rfl⟩ : ∃ z, z = y := ⟨_, rfl⟩
    have m1 : s.data.toList.length = s.size := by simp
    have m2 : t.data.toList.length = t.size := by simp
    have HM := hid (And.intro m1 m2)
    clear hz h0 v1 v2 m1 m2
    have HB := hid (btr HB1.out (box_bel w1 (.cells #[.string s, .string t, .int .i64 1, .int .i64 1] 72)) HB1.out.size)
    have HCM := hid fun wx => common_any s t 1 1 wx s1 s2
    clear HB1
    go_wp2_with fail
    refine (HCM.out _).mono ?_
    rintro e w2 ⟨B, g, rfl, hbo, hbr, hb2⟩
    have HE : Hid (CmR w w2 s t B g (.slice none 0 0) []) := hid ⟨hbo, hbr, World.ownsRow_nil _ _ _ _, btr HB.out hb2 HB.out.size⟩
    clear hbo hbr hb2 HCM
    go_wp2
    go_loopg [9, 10, 11] (lcA s.data.toList t.data.toList 0 0) (fun gn v x y wr => ∃ (i k : Nat) (pre : List UInt8), i ≤ s.size ∧ k ≤ t.size ∧ lcA s.data.toList t.data.toList i k = gn ∧ x = .int .i64 (i : Int) ∧ y = .int .i64 (k : Int) ∧ Hid (cmA s.data.toList t.data.toList 0 0 = pre ++ cmA s.data.toList t.data.toList i k) ∧ Hid (CmR w wr s t B g v pre))
    case atStart => exact ⟨0, 0, [], by omega, by omega, rfl, rfl, rfl, hid rfl, HE⟩
    case round =>
      obtain ⟨i, k, pre, hi1, hk1, hgn, rfl, rfl, HP, HR⟩ := hrel
      clear HE
      obtain ⟨A, cap, rfl⟩ := own_shape HR.out.own
      obtain ⟨a0, a1⟩ := HR.out.at_ hi1 hk1
      rw [hgn] at a1
      have b1 : (i : Int) < (s.size : Int) + 1 := by omega
      have b2 : (k : Int) < (t.size : Int) + 1 := by omega
      have HGN := hid hgn
      have hg40 : gk ≤ 40 := by rw [← hgn]; have := lcA_len s.data.toList t.data.toList i k; rw [HM.out.1, HM.out.2] at this; omega
      have hlen : pre.length ≤ 40 := by
        have h1 := (cmA_is (S := s.data.toList) (T := t.data.toList) (i := 0) (k := 0) HAB.out).1
        have h2 := lcA_len s.data.toList t.data.toList 0 0
        rw [HP.out, List.length_append] at h1
        rw [HM.out.1, HM.out.2] at h2
        omega
      clear hgn
      by_cases hg0 : gk = 0
      · subst hg0
        have HC := hid (bytes_conv HR.out.own rfl)
        have HF : Hid (comB s t = ⟨pre.toArray⟩) := hid (by unfold comB; rw [HP.out, cmA_nil HGN.out, List.append_nil])
        have hcv := HC.out
        clear HC
        go_wp2
        refine bodyPost_ret (v := .tuple #[.string ⟨pre.toArray⟩, .int .i64 0]) (by simp [results, Tryd.results44, go_sem]) rfl ⟨by rw [HZ.out, if_pos rfl, HF.out], HR.out.bel⟩
      · have hgp : (0 : Int) < (gk : Int) := by omega
        have hgp2 : 0 < gk := by omega
        obtain ⟨gl, rfl⟩ : ∃ gl, gl = gk := ⟨_, rfl⟩
        go_wp2
        go_loopg [9, 10, 11, 12] 8 (fun ge ov xi xk x wj => ∃ q : Nat, ge + q = 8 ∧ ov = .slice A pre.length cap ∧ xi = .int .i64 (i : Int) ∧ xk = .int .i64 (k : Int) ∧ x = .int .u8 (97 + (q : Int)) ∧ Hid (∀ j, j < q → pickB s.data.toList t.data.toList i k (abc.getD j 0) = false) ∧ Hid (CmR w wj s t B g (.slice A pre.length cap) pre))
        case atStart => exact ⟨0, rfl, rfl, rfl, rfl, rfl, hid (by omega), HR⟩
        case round =>
          obtain ⟨q, hq, rfl, rfl, rfl, rfl, HN, HQ⟩ := hrel
          clear HR a0 a1
          by_cases hq8 : q = 8
          · exfalso
            subst hq8
            obtain ⟨q, hq8, hp⟩ := pick_some (T := t.data.toList) (i := i) (k := k) HAB.out (by rw [HGN.out]; omega)
            rw [HN.out q hq8] at hp
            cases hp
          · have hq7 : q < 8 := by omega
            have hqc : (97 : Int) + (q : Int) ≤ 104 := by omega
            obtain ⟨pe, hpe⟩ : ∃ pe, abc.getD q 0 = pe := ⟨_, rfl⟩
            have hpn := abc_get hq7
            rw [hpe] at hpn
            have hnx := nxt_le (S := s.data.toList) (i := i) pe (by rw [HM.out.1]; exact hi1)
            have hny := nxt_le (S := t.data.toList) (i := k) pe (by rw [HM.out.2]; exact hk1)
            rw [HM.out.1] at hnx
            rw [HM.out.2] at hny
            have HX := hid fun wx => next_any s i pe wx (by omega) hi1
            have HY := hid fun wx => next_any t k pe wx (by omega) hk1
            have hpk := pickB_at (S := s.data.toList) (T := t.data.toList) (i := i) (k := k) (x := pe)
            have hp1 := pickB_no1 (S := s.data.toList) (T := t.data.toList) (i := i) (k := k) (x := pe)
            have hp2 := pickB_no2 (S := s.data.toList) (T := t.data.toList) (i := i) (k := k) (x := pe)
            have hlc := pick_next (S := s.data.toList) (T := t.data.toList) (i := i) (k := k) (x := pe)
            have hst := cmA_step (S := s.data.toList) (T := t.data.toList) (i := i) (k := k) hq7
            rw [hpe] at hst
            rw [hpn, show ((97 + q : Nat) : Int) = 97 + (q : Int) by omega] at HX HY
            obtain ⟨nx, hnx'⟩ : ∃ nx, nxt s.data.toList i pe = nx := ⟨_, rfl⟩
            obtain ⟨ny, hny'⟩ : ∃ ny, nxt t.data.toList k pe = ny := ⟨_, rfl⟩
            rw [hnx'] at hnx HX
            rw [hny'] at hny HY
            rw [hnx', hny', HM.out.1, HM.out.2, HGN.out] at hpk
            rw [hnx', HM.out.1] at hp1
            rw [hny', HM.out.2] at hp2
            rw [hnx', hny'] at hst
            rw [hnx', hny', HM.out.1, HM.out.2] at hlc
            have HPK := hid (And.intro hpk (And.intro hp1 (And.intro hp2 hst)))
            have HLC := hid hlc
            have HPE := hid (And.intro hpe hpn)
            clear hpk hp1 hp2 hst hlc hpe hpn hnx' hny'
            obtain ⟨a0, a1⟩ := HQ.out.at_ hi1 hk1
            rw [HGN.out] at a1
            go_wp2_with fail
            refine (HX.out _).mono ?_
            rintro e wx ⟨rfl, rfl⟩
            go_wp2_with fail
            refine (HY.out _).mono ?_
            rintro e wx ⟨rfl, rfl⟩
            by_cases h1 : nx < s.size
            · by_cases h2 : ny < t.size
              · obtain ⟨z0, z1⟩ := HQ.out.at_ (i := nx) (k := ny) (by omega) (by omega)
                obtain ⟨l1, hl1⟩ : ∃ l1, lcA s.data.toList t.data.toList nx ny = l1 := ⟨_, rfl⟩
                rw [hl1] at z1
                have hpk := HPK.out.1 h1 h2
                rw [hl1] at hpk
                have b3 : (nx : Int) < (s.size : Int) + 1 := by omega
                have b4 : (ny : Int) < (t.size : Int) + 1 := by omega
                by_cases h3 : l1 = gl
                · have h3b : ((l1 : Int) == (gl : Int)) = true := by simp; omega
                  have HST := hid (HPK.out.2.2.2 (by rw [hpk, h3]; simp) (fun j hj => HN.out j hj))
                  have hgl := HLC.out h1 h2
                  have HGL : Hid (lcA s.data.toList t.data.toList (nx + 1) (ny + 1) = gl - 1) := hid (by omega)
                  clear h3 hpk hl1 hgl
                  go_wp2
                  go_quiet (fail)
                  have HQ2 := hid (HQ.out.next (bdr _ nq))
                  clear z0 z1 a0 a1 HQ
                  generalize wr.drewN nq = w4 at HQ2 ⊢
                  have hs4 := HQ2.out.bel.size
                  go_wp2_with (at_builtin; refine wpList_append_own _ rfl _ _ 99 rfl w.heap.size 5 i0 (.int .u8 0) 1 1 Tryd.underlying99 hi0 hz0 hz1 hz2 rfl (by decide) _ _ _ rfl (HQ2.out.own.alloc _) ⟨w4.heap.size, 0, none⟩ 1 1 [.int .u8 (97 + (q : Int))] rfl rfl (cell_one_new _ _ _) (by simp [Value.oneCell']) (by unfold maxLen; omega) (by omega) (by simp; omega) ?_; intro v' w5 hown' hgrow _)
                  have HQ3 := hid (HQ2.out.app (b := pe) (by unfold u8v; rw [HPE.out.2, show ((97 + q : Nat) : Int) = 97 + (q : Int) by omega]; exact hown') hgrow)
                  clear hown' hgrow HQ2
                  go_roundg (gl - 1)
                  case measure => omega
                  case rel =>
                    refine ⟨nx + 1, ny + 1, pre ++ [pe], by omega, by omega, HGL.out, by go_num, by go_num, hid ?_, HQ3⟩
                    rw [HP.out, HST.out, List.append_assoc]
                    rfl
                · have h3b : ((l1 : Int) == (gl : Int)) = false := by simp; omega
                  have HNO := hid (hpk.trans (decide_eq_false h3))
                  clear h3 hpk hl1
                  go_wp2
                  go_quiet (fail)
                  go_wp2
                  go_roundg (gk - 1)
                  case measure => omega
                  case rel =>
                    refine ⟨q + 1, by omega, rfl, rfl, rfl, congrArg (Value.int .u8) (by omega), hid fun j hj => ?_, hid (HQ.out.next (bdr _ nq))⟩
                    by_cases e : j = q
                    · subst e; rw [HPE.out.1]; exact HNO.out
                    · exact HN.out j (by omega)
              · have HNO := hid (HPK.out.2.2.1 h2)
                have d2 : decide (ny < t.size) = false := decide_eq_false h2
                clear h2
                go_wp2
                go_quiet (fail)
                go_wp2
                go_roundg (gk - 1)
                case measure => omega
                case rel =>
                  refine ⟨q + 1, by omega, rfl, rfl, rfl, congrArg (Value.int .u8) (by omega), hid fun j hj => ?_, hid (HQ.out.next (bdr _ nq))⟩
                  by_cases e : j = q
                  · subst e; rw [HPE.out.1]; exact HNO.out
                  · exact HN.out j (by omega)
            · have HNO := hid (HPK.out.2.1 h1)
              have d2 : decide (nx < s.size) = false := decide_eq_false h1
              clear h1
              go_wp2
              go_quiet (fail)
              go_wp2
              go_roundg (gk - 1)
              case measure => omega
              case rel =>
                refine ⟨q + 1, by omega, rfl, rfl, rfl, congrArg (Value.int .u8) (by omega), hid fun j hj => ?_, hid (HQ.out.next (bdr _ nq))⟩
                by_cases e : j = q
                · subst e; rw [HPE.out.1]; exact HNO.out
                · exact HN.out j (by omega)
  · have HZ := hid hz
    have hne : (codeV s t != 0) = true := by simpa using hz
    have HB := hid (btr HB1.out (box_bel w1 (.cells #[.string x, .string y, .int .i64 u, .int .i64 v] 72)) HB1.out.size)
    clear hz h0
    go_wp2
    refine bodyPost_ret (v := .tuple #[.string ⟨#[]⟩, .int .i64 (codeV s t)]) (by simp [results, Tryd.results44, go_sem]) rfl ⟨by rw [if_neg HZ.out]; rfl, HB.out⟩
end Go.Proofs.YtmhlgnhfbickdaaDoor
