/-
  The distances of several prints from one: the program and the reference. Conditions: the prints lie in memory.
-/
import Derived.Laws.OwnMore
import Derived.Test.YtmhlgnhfbickdaaDoorP29
import Derived.Test.YtmhlgnhfbickdaaDoorP11
import Derived.Test.YtmhlgnhfbickdaaDoorMath9
namespace Go.Proofs.YtmhlgnhfbickdaaDoor
set_option linter.unusedVariables false
set_option linter.unusedSimpArgs false
open Go.RowKit Go.Shelf

/-! ### all prints valid -/
def nvB (s : ByteArray) : Bool := !valB s
theorem nv_any (s : ByteArray) (w : World) (hs : s.size ≤ 9223372036854775807) : Calls Tryd.prog 89 #[.string s] w fun e w' => e = .returned (.bool (nvB s)) ∧ Below w.heap.size w w' := by
  go_enter Tryd.func89, Tryd.ntmps89
  go_wp2_with fail
  refine (valid_any s _ hs).mono ?_
  rintro e w' ⟨rfl, hb⟩
  go_wp2
  go_ret
  exact ⟨ret_bool rfl, hb⟩
set_option maxHeartbeats 1000000 in
theorem idxS_any (A : Option Addr) (n cap : Nat) (ss : Nat → ByteArray) (w : World) (hss : StrsAt w A n ss) :
    Calls Tryd.prog 104 #[.slice A n cap, .func (.func 89) #[] #[]] w fun e w' => e = .returned (.int .i64 (idxB n (fun i => nvB (ss i)))) ∧ Below w.heap.size w w' := by
  obtain ⟨hn, b, off, hlt, hA, hc⟩ := hss
  have HC := hid (And.intro hlt hc)
  clear hc hlt
  go_enter Tryd.func104, Tryd.ntmps104
  go_wp2
  go_loopw [8] (fun i wr => ∃ k : Nat, k ≤ n ∧ i = .int .i64 (k : Int) ∧ Hid (∀ j, j < k → nvB (ss j) = false) ∧ Hid (Below w.heap.size w wr)) (fun i _ => n - (intOf i).toNat)
  case atStart => exact ⟨0, by omega, rfl, hid (by omega), hid (Below.refl _ _)⟩
  case round =>
    obtain ⟨k, hk, rfl, HN, HW⟩ := hrel
    obtain ⟨wk, rfl⟩ : ∃ wk : World, wk = wr := ⟨_, rfl⟩
    by_cases hkn : k < n
    · obtain rfl := hA (by omega)
      obtain ⟨hck, hsz⟩ := HC.out.2 k hkn
      have c0 := (HW.out.cell (p := ⟨b, off + k, none⟩) (HC.out.1 (by omega))).trans hck
      have HS := hid hsz
      clear hck hsz
      cases hv : nvB (ss k)
      · have HV := hid hv
        clear hv
        go_wp2_with fail
        refine (nv_any (ss k) _ HS.out).mono ?_
        rintro e w' ⟨rfl, hb⟩
        rw [HV.out]
        have HW2 := hid (btr HW.out hb HW.out.size)
        clear hb
        go_wp2
        go_roundw
        case rel => exact ⟨k + 1, by omega, by go_num, hid (fun j hj => by (by_cases e : j = k; (subst e; exact HV.out); exact HN.out j (by omega))), HW2⟩
        case measure => simp [intOf]; omega
      · have HV := hid hv
        have HF := hid (idxB_some (f := fun i => nvB (ss i)) hkn hv HN.out)
        clear hv
        go_wp2_with fail
        refine (nv_any (ss k) _ HS.out).mono ?_
        rintro e w' ⟨rfl, hb⟩
        rw [HV.out]
        have HW2 := hid (btr HW.out hb HW.out.size)
        clear hb
        go_wp2
        go_ret
        exact ⟨ret_int HF.out.symm, HW2.out⟩
    · obtain rfl : k = n := by omega
      have HF := hid (idxB_none (f := fun i => nvB (ss i)) HN.out)
      go_wp2
      go_ret
      exact ⟨ret_int HF.out.symm, HW.out⟩
theorem conS_any (A : Option Addr) (n cap : Nat) (ss : Nat → ByteArray) (w : World) (hss : StrsAt w A n ss) :
    Calls Tryd.prog 88 #[.slice A n cap, .func (.func 89) #[] #[]] w fun e w' => e = .returned (.bool (anyB n (fun i => nvB (ss i)))) ∧ Below w.heap.size w w' := by
  have HL := hid hss
  have HI := hid (idxB_any (n := n) (f := fun i => nvB (ss i)))
  clear hss
  go_enter Tryd.func88, Tryd.ntmps88
  go_wp2_with fail
  refine (idxS_any A n cap ss _ HL.out).mono ?_
  rintro e w' ⟨rfl, hb⟩
  go_wp2
  go_ret
  exact ⟨ret_bool HI.out, hb⟩
/-- a list of texts that a list owns -/
theorem StrsAt.own {w : World} {base k : Nat} {v : Value} {l : List ByteArray} (h : w.ownsRow base 9 1 v k (l.map Value.string)) (hk : k = l.length) (hl : l.length ≤ 9223372036854775807) (hs : ∀ s ∈ l, s.size ≤ 9223372036854775807) :
    ∃ A cap, v = .slice A k cap ∧ StrsAt w A k (fun i => l.getD i ByteArray.empty) := by
  subst hk
  rcases h.2 with ⟨rfl, h0⟩ | ⟨g, cap, cur, rfl, hb, hg, hc⟩
  · rw [h0]
    exact ⟨none, 0, rfl, by omega, 0, 0, by omega, by omega, by omega⟩
  · have hlt : g < w.heap.size := by
      rcases Nat.lt_or_ge g w.heap.size with h | h
      · exact h
      · rw [Array.getElem?_eq_none h] at hg; cases hg
    refine ⟨_, cap, rfl, hl, g, 0, fun _ => hlt, fun _ => rfl, fun i hi => ?_⟩
    have h1 := h.cells (g := g) rfl i (.string (l.getD i ByteArray.empty)) (by simp [hi])
    have e : (⟨g, 0, none⟩ : Addr).add i = ⟨g, 0 + i, none⟩ := by
      unfold Addr.add
      split
      · rename_i h0; subst h0; rfl
      · rfl
    rw [e] at h1
    refine ⟨h1, hs _ ?_⟩
    show l.getD i ByteArray.empty ∈ l
    rw [List.getD_eq_getElem?_getD, List.getElem?_eq_getElem hi]
    exact List.getElem_mem hi
/-! ### what is answered -/
def arB (n : Nat) (ss : Nat → ByteArray) : Bool := btw 1 n 8 && !anyB n (fun i => nvB (ss i))
def disC (n : Nat) (ss : Nat → ByteArray) (s : ByteArray) (p c : Int) (right : Bool) : Int := if arB n ss && valB s then (if vcB p c then (if right then 0 else 2) else 91) else 90
def dsF (ss : Nat → ByteArray) (s : ByteArray) (p c : Int) (i : Nat) : Int := (dst p.toNat c.toNat (ss i).data.toList s.data.toList : Nat)
def dsL (n : Nat) (f : Nat → Int) : List Int := (List.range n).map f
theorem dsL_len (n : Nat) (f : Nat → Int) : (dsL n f).length = n := by simp [dsL]
theorem dsL_succ (n : Nat) (f : Nat → Int) : dsL (n + 1) f = dsL n f ++ [f n] := by unfold dsL; rw [List.range_succ, List.map_append]; rfl
def DisR (w : World) (code : Int) (l : List Int) (e : Ending) (w' : World) : Prop :=
  ∃ A m cap, e = .returned (.tuple #[.slice A m cap, .int .i64 code]) ∧ IntsV w' (.slice A m cap) (if code = 0 then l else []) ∧ Below w.heap.size w w'
theorem arB_true {n : Nat} {ss : Nat → ByteArray} (h : arB n ss = true) : (1 ≤ n ∧ n ≤ 8) ∧ ∀ i, i < n → valB (ss i) = true := by
  unfold arB at h
  rw [Bool.and_eq_true, btw_iff, Bool.not_eq_true', anyB_false] at h
  refine ⟨by omega, fun i hi => ?_⟩
  have := h.2 i hi
  unfold nvB at this
  simpa using this
theorem cons_any (n : Nat) (ss : Nat → ByteArray) (s : ByteArray) : anyB (n + 1) (fun i => nvB ((s :: (List.range n).map ss).getD i ByteArray.empty)) = (nvB s || anyB n (fun i => nvB (ss i))) := by
  rw [Bool.eq_iff_iff, Bool.or_eq_true, anyB_true, anyB_true]
  constructor
  · rintro ⟨i, hi, h⟩
    cases i with
    | zero => exact .inl h
    | succ i =>
      refine .inr ⟨i, by omega, ?_⟩
      simpa [show i < n by omega] using h
  · rintro (h | ⟨i, hi, h⟩)
    · exact ⟨0, by omega, h⟩
    · exact ⟨i + 1, by omega, by simpa [hi] using h⟩
theorem info9 : (Tryd.prog.info? 9).map (fun i => (i.zero, i.size, i.bytes)) = some (some (.string ⟨#[]⟩), 1, 16) := by kernel_rfl
theorem disC_bad {n : Nat} {ss : Nat → ByteArray} {s : ByteArray} {p c : Int} {right : Bool} (h : (arB n ss && valB s) = false) : disC n ss s p c right = 90 := by unfold disC; rw [h]; rfl
theorem disC_costs {n : Nat} {ss : Nat → ByteArray} {s : ByteArray} {p c : Int} {right : Bool} (h : (arB n ss && valB s) = true) (h2 : vcB p c = false) : disC n ss s p c right = 91 := by unfold disC; rw [h, h2]; rfl
theorem disC_arg {n : Nat} {ss : Nat → ByteArray} {s : ByteArray} {p c : Int} (h : (arB n ss && valB s) = true) (h2 : vcB p c = true) : disC n ss s p c false = 2 := by unfold disC; rw [h, h2]; rfl
theorem disC_ok {n : Nat} {ss : Nat → ByteArray} {s : ByteArray} {p c : Int} (h : (arB n ss && valB s) = true) (h2 : vcB p c = true) : disC n ss s p c true = 0 := by unfold disC; rw [h, h2]; rfl
theorem dst_360' {s t : ByteArray} {p c : Nat} (h1 : valB s = true) (h2 : valB t = true) (hp : p ≤ 9) : dst p c s.data.toList t.data.toList ≤ 360 := by
  have s1 := (valB_true.1 h1).1
  have s2 := (valB_true.1 h2).1
  have h := dst_hi (p := p) (c := c) s.data.toList t.data.toList
  have e1 : s.data.toList.length = s.size := by simp
  have e2 : t.data.toList.length = t.size := by simp
  rw [e1, e2] at h
  exact Nat.le_trans h (Nat.le_trans (Nat.mul_le_mul hp (show s.size + t.size ≤ 40 by omega)) (by omega))

/-- an append behind a guard that is met -/
theorem wpList_append_own_w {P : Program} {w : World} {ops : Array Oper} {rest : List Oper} {o : Oper} {a : Act} {Q : Exit → Act → World → Prop} (hw : Region.wanted o (yielded ops a.tmps) = true) (s x : Operand) (t : TypeId)
    (ho : o.op = .call { callee := .builtin .append, args := #[s, x], argTypes := #[t, t] })
    (base : Nat) (e : TypeId) (i : TypeInfo) (z : Value) (size bytes : Nat) (ht : P.underlying t = some (.slice e)) (hi : P.info? e = some i) (hz : i.zero = some z)
    (hsize : i.size = size) (hby : i.bytes = bytes) (hzs : z.cells.size = size) (hsz : 0 < size)
    (v : Value) (n : Nat) (xs : List Value) (hs : a.eval s = v) (hown : w.ownsRow base e size v n xs)
    (ad : Addr) (m c : Nat) (news : List Value) (hx : a.eval x = .slice (some ad) m c) (hl : news.length = m * size) (hnews : ∀ j u, news[j]? = some u → w.cell? (ad.add j) = some u) (h1 : ∀ u ∈ news, u.oneCell' = true)
    (h63 : n + m ≤ maxLen) (hbytes : (n + m) * bytes ≤ 140737488355328) (hbase : base ≤ w.heap.size)
    (h : ∀ v' w', w'.ownsRow base e size v' (n + m) (xs ++ news) → w.grownBy w' v.ownBlock → (v' = .slice none 0 0 ↔ v = .slice none 0 0 ∧ m = 0) → wpList P ops Q rest (a.put o.dst v') w') : wpList P ops Q (o :: rest) a w :=
  wpList_step fun K hK => by
    rw [if_pos hw]
    exact wp_append_own w s x t ho base e i z size bytes ht hi hz hsize hby hzs hsz v n xs hs hown ad m c news hx hl hnews h1 h63 hbytes hbase fun v' w' h2 h3 h4 => hK _ _ (h v' w' h2 h3 h4)
set_option maxRecDepth 100000 in
set_option maxHeartbeats 4000000 in
/-- distances -/
theorem distances_any (A : Option Addr) (n cap : Nat) (ss : Nat → ByteArray) (s : ByteArray) (p c : Int) (right : Bool) (w : World) (hss : StrsAt w A n ss) (hs : s.size ≤ 9223372036854775807) :
    Calls Tryd.prog 65 #[.slice A n cap, .string s, .agg #[.int .i64 p, .int .i64 c], .bool right] w (DisR w (disC n ss s p c right) (dsL n (dsF ss s p c))) := by
  have hb0 := hid (box_bel w (.cells #[.int .i64 p, .int .i64 c] 24))
  have HB := hid (Blk.new w 24 #[.int .i64 p, .int .i64 c])
  have HL := hid hss
  obtain ⟨hn9, _⟩ := hss
  obtain ⟨i0, hi0, hz0, hz1, hz2⟩ := info_parts info9
  obtain ⟨j0, hj0, hy0, hy1, hy2⟩ := info_parts info3
  have HS := hid hs
  clear hs
  go_enter Tryd.func65, Tryd.ntmps65
  go_wp2_with fail
  refine (between_any _ _ _ _).mono ?_
  rintro e w' ⟨rfl, rfl⟩
  cases hbt : btw 1 n 8
  · have HD := hid (disC_bad (n := n) (ss := ss) (s := s) (p := p) (c := c) (right := right) (by unfold arB; rw [hbt]; rfl))
    clear hbt
    go_wp2
    refine bodyPost_ret (v := .tuple #[.slice none 0 0, .int .i64 90]) (by simp [results, Tryd.results65, go_sem]) rfl ⟨none, 0, 0, by rw [HD.out], ?_, hb0.out⟩
    rw [HD.out]
    exact IntsV.nil _
  · have hn18 := btw_iff.1 hbt
    have HBT := hid hbt
    clear hbt
    obtain ⟨hn9', b, off, hlt, hA, hc⟩ := HL.out
    obtain rfl := hA (by omega)
    obtain ⟨w1, hw1⟩ : ∃ w1, w.alloc (.cells #[.int .i64 p, .int .i64 c] 24) = w1 := ⟨_, rfl⟩
    rw [hw1] at hb0 HB
    have HB1 := hid (btr hb0.out (box_bel w1 (.cells #[.string s] 9)) hb0.out.size)
    have HCC := hid (And.intro (hlt (by omega)) hc)
    clear hlt hc
    have hnews : ∀ j u, ((List.range n).map fun i => Value.string (ss i))[j]? = some u → (w1.alloc (.cells #[.string s] 9)).cell? ((⟨b, off, none⟩ : Addr).add j) = some u := by
      intro j u hu
      obtain ⟨hj, rfl⟩ := List.getElem?_eq_some_iff.1 hu
      have hj' : j < n := by simpa using hj
      have e : (⟨b, off, none⟩ : Addr).add j = ⟨b, off + j, none⟩ := by
        unfold Addr.add
        split
        · rename_i h0; subst h0; rfl
        · rfl
      rw [e, List.getElem_map, List.getElem_range]
      exact (HB1.out.cell (p := ⟨b, off + j, none⟩) HCC.out.1).trans (HCC.out.2 j hj').1
    have hown0 : (w1.alloc (.cells #[.string s] 9)).ownsRow w1.heap.size 9 1 (.slice (some ⟨w1.heap.size, 0, none⟩) 1 1) 1 [.string s] := World.ownsRow_lit w1 #[.string s] 1 (Nat.le_refl _) (by unfold maxLen; omega) (by simp)
    have HN := hid (And.intro hnews hown0)
    clear hnews hown0
    go_wp2_with (at_builtin; refine wpList_append_own_w (by rfl) _ _ 22 rfl w1.heap.size 9 i0 (.string ⟨#[]⟩) 1 16 Tryd.underlying22 hi0 hz0 hz1 hz2 rfl (by decide) _ _ _ rfl HN.out.2 ⟨b, off, none⟩ n cap ((List.range n).map fun i => Value.string (ss i)) rfl (by simp) HN.out.1 (by simp [Value.oneCell']) (by unfold maxLen; omega) (by omega) (by simp) ?_; intro v' w5 hown' hgrow _)
    have hl1 : (s :: (List.range n).map ss).length = 1 + n := by simp; omega
    have hmap : (s :: (List.range n).map ss).map Value.string = [Value.string s] ++ (List.range n).map fun i => Value.string (ss i) := by simp [Function.comp_def]
    rw [← hmap] at hown'
    obtain ⟨A5, cap5, rfl, hS5⟩ := StrsAt.own hown' hl1.symm (by rw [hl1]; omega) (by
      intro z hz
      rcases List.mem_cons.1 hz with rfl | hz
      · exact HS.out
      · obtain ⟨i, hi, rfl⟩ := List.mem_map.1 hz
        exact (HCC.out.2 i (List.mem_range.1 hi)).2)
    have HK5 := hid (own_below HN.out.2 hgrow HB1.out hb0.out.size (by have := HB1.out.size; exact this))
    have HB5 := hid (own_type HN.out.2 hgrow (HB.out.alloc _) (by decide))
    have hcs := cons_any n ss s
    rw [Nat.add_comm n 1] at hcs
    have HS5 := hid hS5
    have HCS := hid hcs
    clear hown' hgrow hS5 hcs hmap hl1 HN
    refine (conS_any _ _ _ _ _ HS5.out).mono ?_
    rintro e w6 ⟨rfl, hb⟩
    rw [HCS.out]
    have K6 := hid (btr HK5.out hb HK5.out.size)
    have B6 := hid (HB5.out.below' hb)
    clear hb HS5 HCS HK5 HB5 HB1 HB hb0
    cases hval : (nvB s || anyB n fun i => nvB (ss i))
    · have hok : (arB n ss && valB s) = true := by
        rw [Bool.or_eq_false_iff] at hval
        unfold arB
        rw [HBT.out, hval.2]
        have := hval.1
        unfold nvB at this
        simpa using this
      have HOK := hid hok
      clear hval hok
      have c0 := B6.out.cell 0
      have c1 := B6.out.cell 1
      simp only [List.getElem?_toArray, List.getElem?_cons_zero, List.getElem?_cons_succ] at c0 c1
      go_wp2_with fail
      refine (vCosts_any _ _ _).mono ?_
      rintro e w7 ⟨rfl, hb⟩
      have K7 := hid (btr K6.out hb K6.out.size)
      have B7 := hid (B6.out.below' hb)
      clear hb c0 c1
      cases hvc : vcB p c
      · have HD := hid (disC_costs (right := right) HOK.out hvc)
        clear hvc
        go_wp2
        refine bodyPost_ret (v := .tuple #[.slice none 0 0, .int .i64 91]) (by simp [results, Tryd.results65, go_sem]) rfl ⟨none, 0, 0, by rw [HD.out], ?_, K7.out⟩
        rw [HD.out]
        exact IntsV.nil _
      · have HVC := hid hvc
        have hr := vcB_true.1 hvc
        clear hvc
        cases right
        · have HD := hid (disC_arg HOK.out HVC.out)
          go_wp2
          refine bodyPost_ret (v := .tuple #[.slice none 0 0, .int .i64 2]) (by simp [results, Tryd.results65, go_sem]) rfl ⟨none, 0, 0, by rw [HD.out], ?_, K7.out⟩
          rw [HD.out]
          exact IntsV.nil _
        · have HD := hid (disC_ok HOK.out HVC.out)
          obtain ⟨p, rfl⟩ : ∃ p' : Nat, p = (p' : Int) := ⟨p.toNat, by omega⟩
          obtain ⟨c, rfl⟩ : ∃ c' : Nat, c = (c' : Int) := ⟨c.toNat, by omega⟩
          have hval := arB_true (Bool.and_eq_true _ _ ▸ HOK.out).1
          have HVS := hid (And.intro hval.2 (Bool.and_eq_true _ _ ▸ HOK.out).2)
          clear hval
          go_wp2
          go_loopw [10, 36] (fun v x wr => ∃ k : Nat, k ≤ n ∧ x = .int .i64 (k : Int) ∧ Hid (wr.ownsRow w.heap.size 3 1 v k ((dsL k (dsF ss s (p : Int) (c : Int))).map (Value.int .i64))) ∧ Hid (Below w.heap.size w wr) ∧ Hid (Blk wr w.heap.size 24 #[.int .i64 (p : Int), .int .i64 (c : Int)])) (fun _ x _ => n - (intOf x).toNat)
          case atStart => exact ⟨0, by omega, rfl, hid (World.ownsRow_nil _ _ _ _), K7, B7⟩
          case round =>
            obtain ⟨k, hk, rfl, HO, HW, HBk⟩ := hrel
            obtain ⟨wk, rfl⟩ : ∃ wk : World, wk = wr := ⟨_, rfl⟩
            obtain ⟨A2, cap2, rfl⟩ := own_shape HO.out
            by_cases hkn : k < n
            · have hck := (HW.out.cell (p := ⟨b, off + k, none⟩) HCC.out.1).trans (HCC.out.2 k hkn).1
              have c0 := HBk.out.cell 0
              have c1 := HBk.out.cell 1
              simp only [List.getElem?_toArray, List.getElem?_cons_zero, List.getElem?_cons_succ] at c0 c1
              have HDK := hid fun wx => dist_ok (ss k) s p c wx (HVS.out.1 k hkn) HVS.out.2 HVC.out
              have hdf : dsF ss s (p : Int) (c : Int) k = (dst p c (ss k).data.toList s.data.toList : Nat) := by unfold dsF; rw [Int.toNat_natCast, Int.toNat_natCast]
              obtain ⟨d, hd⟩ : ∃ d, dst p c (ss k).data.toList s.data.toList = d := ⟨_, rfl⟩
              rw [hd] at HDK hdf
              have HDF := hid hdf
              clear hd hdf
              go_wp2_with fail
              refine (HDK.out _).mono ?_
              rintro e w8 ⟨rfl, hb⟩
              have HO8 := hid (own_bel HO.out hb)
              have HW8 := hid (btr HW.out hb HW.out.size)
              have HB8 := hid (HBk.out.below' hb)
              clear hb HO HW HBk c0 c1 hck HDK
              go_wp2_with (at_builtin; refine wpList_append_own _ rfl _ _ 25 rfl w.heap.size 3 j0 (.int .i64 0) 1 8 Tryd.underlying25 hj0 hy0 hy1 hy2 rfl (by decide) _ _ _ rfl (HO8.out.alloc _) ⟨w8.heap.size, 0, none⟩ 1 1 [.int .i64 (d : Int)] rfl rfl (cell_one_new _ _ _) (by simp [Value.oneCell']) (by unfold maxLen; omega) (by omega) (by have := HW8.out.size; simp; omega) ?_; intro v' w9 hown' hgrow _)
              have hb9 := own_below (HO8.out.alloc _) hgrow (HW8.out.alloc HW8.out.size _) (Nat.le_refl _) (by have := HW8.out.size; simp; omega)
              have hbb9 := own_type (HO8.out.alloc _) hgrow (HB8.out.alloc _) (by decide)
              have HE : Hid (w9.ownsRow w.heap.size 3 1 v' (k + 1) ((dsL (k + 1) (dsF ss s (p : Int) (c : Int))).map (Value.int .i64)) ∧ Below w.heap.size w w9 ∧ Blk w9 w.heap.size 24 #[.int .i64 (p : Int), .int .i64 (c : Int)]) := hid (by
                refine ⟨?_, hb9, hbb9⟩
                rw [dsL_succ, List.map_append, HDF.out]
                exact hown')
              clear hown' hgrow hb9 hbb9 HO8 HW8 HB8
              go_wp2
              go_roundw
              case rel => exact ⟨k + 1, by omega, by go_num, hid HE.out.1, hid HE.out.2.1, hid HE.out.2.2⟩
              case measure => simp [intOf]; omega
            · obtain rfl : k = n := by omega
              go_wp2
              refine bodyPost_ret (v := .tuple #[.slice A2 k cap2, .int .i64 0]) (by simp [results, Tryd.results65, go_sem]) rfl ⟨A2, k, cap2, by rw [HD.out], ?_, HW.out⟩
              rw [HD.out, if_pos rfl]
              exact IntsV.own HO.out (dsL_len _ _).symm (by rw [dsL_len]; omega)
    · have HD := hid (disC_bad (n := n) (ss := ss) (s := s) (p := p) (c := c) (right := right) (by
        rw [Bool.or_eq_true] at hval
        unfold arB
        rcases hval with h | h
        · unfold nvB at h
          have : valB s = false := by simpa using h
          rw [this, Bool.and_false]
        · rw [h]; simp))
      clear hval
      go_wp2
      refine bodyPost_ret (v := .tuple #[.slice none 0 0, .int .i64 90]) (by simp [results, Tryd.results65, go_sem]) rfl ⟨none, 0, 0, by rw [HD.out], ?_, K6.out⟩
      rw [HD.out]
      exact IntsV.nil _
end Go.Proofs.YtmhlgnhfbickdaaDoor
