/-
  Proves of the reference: the walk. Conditions: the table lies in memory, its rows are no longer than 60.
-/
import Derived.Test.YtmhlgnhfbickdaaDoorP36
namespace Go.Proofs.YtmhlgnhfbickdaaDoor
set_option linter.unusedVariables false
set_option linter.unusedSimpArgs false
open Go.RowKit Go.Shelf

/-- one row and one number of a table -/
theorem TabAt.num {w : World} {b off n : Nat} {m : Nat → Nat} {f : Nat → Nat → Int} {a k : Nat} (hc : ∀ i, i < n → ∃ Ai ci, w.cell? ⟨b, off + i, none⟩ = some (.slice Ai (m i) ci) ∧ HoursAt w Ai (m i) (f i)) (ha : a < n) (hk : k < m a) :
    ∃ b2 o2 c2, w.cell? ⟨b, off + a, none⟩ = some (.slice (some ⟨b2, o2, none⟩) (m a) c2) ∧ w.cell? ⟨b2, o2 + k, none⟩ = some (.int .i64 (f a k)) := by
  obtain ⟨Ai, ci, h1, hn, b2, o2, h2, h3, h4⟩ := hc a ha
  obtain rfl := h3 (by omega)
  exact ⟨b2, o2, ci, h1, h4 k hk⟩
theorem prov_bad {S T : List UInt8} {p c : Nat} {f : Nat → Nat → Int} {j k e : Nat} {n : Int} (hj : j ≤ S.length) (hk : k ≤ T.length) (he : 1 ≤ e ∧ e ≤ 4) (hok : okS S T j k e = true) (hb : f j k + (coN p c e : Nat) < f (j + diS e) (k + dkS e)) : provB S T (p : Int) (c : Int) f n = false := by
  have h1 : badAt S T (p : Int) (c : Int) f j k = true := by
    unfold badAt
    rw [List.any_eq_true]
    refine ⟨_, steps_has (p := p) (c := c) he hok, ?_⟩
    unfold badS
    simp only [Int.toNat_natCast, decide_eq_true_eq]
    exact hb
  have h2 : obeyB S T (p : Int) (c : Int) f = false := by
    unfold obeyB
    rw [anyB_true.2 ⟨j, by omega, anyB_true.2 ⟨k, by omega, h1⟩⟩]
    rfl
  unfold provB
  rw [h2, Bool.false_and]
theorem prov_done {S T : List UInt8} {p c : Int} {f : Nat → Nat → Int} {n : Int} (h : ∀ a, a < S.length + 1 → ∀ k, k < T.length + 1 → badAt S T p c f a k = false) : provB S T p c f n = (f 0 0 == 0 && decide (n ≤ f S.length T.length)) := by
  have h2 : obeyB S T p c f = true := by
    unfold obeyB
    rw [anyB_false.2 fun a ha => anyB_false.2 fun k hk => h a ha k hk]
    rfl
  unfold provB
  rw [h2, Bool.true_and]
set_option maxRecDepth 100000 in
set_option maxHeartbeats 4000000 in
/-- skimmerref09.Proves -/
theorem rProves_any (s t : ByteArray) (A : Option Addr) (n cap : Nat) (m : Nat → Nat) (f : Nat → Nat → Int) (p c x : Int) (w : World) (hs : s.size ≤ 9223372036854775807) (ht : t.size ≤ 9223372036854775807) (hl : TabAt w A n m f) :
    Calls Tryd.prog 43 #[.string s, .string t, .slice A n cap, .agg #[.int .i64 p, .int .i64 c], .int .i64 x] w (ProvR w s t p c n m f x) := by
  have hb0 := box_bel w (.cells #[.int .i64 p, .int .i64 c] 24)
  have HL := hid hl
  clear hl
  go_enter Tryd.func43, Tryd.ntmps43
  go_wp2_with fail
  refine (asked_any s t p c _ hs ht).mono ?_
  rintro e w1 ⟨rfl, hb⟩
  have HB1 := hid (box_trans _ hb)
  have HB0 := hid ((Blk.new w 24 #[.int .i64 p, .int .i64 c]).below' hb)
  clear hb hb0
  by_cases hz : codeP s t p c = 0
  · have h20 := codeP_zero hz
    have HZ := hid hz
    rw [hz]
    clear hz
    obtain ⟨h20s, h20t, hpp, hcc⟩ := h20
    have hl1 := HL.out.below HB1.out
    obtain ⟨hn, b, off, hlt, hA, hc⟩ := hl1
    have HC := hid hc
    clear hc
    by_cases hnn : n = s.size + 1
    · by_cases hx0 : x < 0
      · have HV := hid (provV_arg (n := n) (m := m) (f := f) (x := x) HZ.out (by rw [btw_false (.inl hx0)]; rfl))
        have g0 : (n : Int) = (s.size : Int) + 1 := by omega
        have g1 : ((n : Int) != (s.size : Int) + 1) = false := by simp; omega
        clear hnn g0
        go_wp2
        refine bodyPost_ret (v := .tuple #[.bool false, .int .i64 2]) (by simp [results, Tryd.results43, go_sem]) rfl ⟨by rw [HV.out], HB1.out⟩
      · by_cases hx1 : 1000 < x
        · have HV := hid (provV_arg (n := n) (m := m) (f := f) (x := x) HZ.out (by rw [btw_false (.inr hx1)]; rfl))
          have g1 : ((n : Int) != (s.size : Int) + 1) = false := by simp; omega
          have g2 : decide (x < 0) = false := by simp; omega
          clear hnn hx0
          go_wp2
          refine bodyPost_ret (v := .tuple #[.bool false, .int .i64 2]) (by simp [results, Tryd.results43, go_sem]) rfl ⟨by rw [HV.out], HB1.out⟩
        · have g1 : ((n : Int) != (s.size : Int) + 1) = false := by simp; omega
          have HX := hid (btw_true (a := 0) (n := x) (b := 1000) (by omega) (by omega))
          have g2 : (0 : Int) ≤ x := by omega
          have g3 : x ≤ 1000 := by omega
          have HN := hid hnn
          clear hnn hx0 hx1
          go_wp2
          clear g1
          go_loop [10, 11, 49] (fun z10 z11 y => ∃ i : Nat, z10 = .bool false ∧ z11 = .int .i64 0 ∧ i ≤ n ∧ y = .int .i64 (i : Int) ∧ Hid (∀ j, j < i → badRow t.size (m j) (f j) = false)) (fun _ _ y => n - (intOf y).toNat)
          case atStart => exact ⟨0, rfl, rfl, by omega, rfl, hid (by omega)⟩
          case round =>
            obtain ⟨i, rfl, rfl, hi, rfl, HI⟩ := hrel
            by_cases hin : i < n
            · have hin2 : (i : Int) < (n : Int) := by omega
              obtain rfl := hA (by omega)
              obtain ⟨Ai, ci, c0, hh⟩ := HC.out i hin
              obtain ⟨hmi, b2, o2, hlt2, hA2, hc2⟩ := hh
              have HC2 := hid hc2
              clear hc2
              by_cases hmm : m i = t.size + 1
              · have g4 : ((m i : Int) != (t.size : Int) + 1) = false := by simp; omega
                obtain rfl := hA2 (by omega)
                have HMM := hid hmm
                clear hmm
                go_wp2
                clear g4 c0
                go_loop [10, 11, 61] (fun z10 z11 y => ∃ k : Nat, z10 = .bool false ∧ z11 = .int .i64 0 ∧ k ≤ m i ∧ y = .int .i64 (k : Int) ∧ Hid (∀ j, j < k → badN (f i j) = false)) (fun _ _ y => m i - (intOf y).toNat)
                case atStart => exact ⟨0, rfl, rfl, by omega, rfl, hid (by omega)⟩
                case round =>
                  obtain ⟨k, rfl, rfl, hk, rfl, HK⟩ := hrel
                  by_cases hkm : k < m i
                  · have hkm2 : (k : Int) < (m i : Int) := by omega
                    have c1 := HC2.out k hkm
                    cases hv : badN (f i k)
                    · have hv2 := hv
                      unfold badN at hv2
                      rw [Bool.not_eq_false', btw_iff] at hv2
                      obtain ⟨v1, v2⟩ := hv2
                      have HV := hid hv
                      clear hv
                      go_wp2
                      go_round
                      case rel => exact ⟨k + 1, rfl, rfl, by omega, by go_num, hid (fun j hj => by (by_cases e : j = k; (subst e; exact HV.out); exact HK.out j (by omega)))⟩
                      case measure => simp [intOf]; omega
                    · have HT : Hid (tabB s.size t.size n m f = false) := hid (tabB_row hin (by unfold badRow; rw [anyB_true.2 ⟨k, hkm, hv⟩, Bool.or_true]))
                      have HV := hid (provV_arg (n := n) (m := m) (f := f) (x := x) HZ.out (by rw [HT.out, Bool.and_false]))
                      unfold badN at hv
                      rw [Bool.not_eq_true', btw_iff'] at hv
                      by_cases hv0 : f i k < 0
                      · clear hv
                        go_wp2
                        refine bodyPost_ret (v := .tuple #[.bool false, .int .i64 2]) (by simp [results, Tryd.results43, go_sem]) rfl ⟨by rw [HV.out], HB1.out⟩
                      · have hv1 : 1000 < f i k := by omega
                        have hv2 : decide (f i k < 0) = false := by simp; omega
                        clear hv hv0
                        go_wp2
                        refine bodyPost_ret (v := .tuple #[.bool false, .int .i64 2]) (by simp [results, Tryd.results43, go_sem]) rfl ⟨by rw [HV.out], HB1.out⟩
                  · have HR : Hid (badRow t.size (m i) (f i) = false) := hid (by
                      unfold badRow
                      rw [decide_eq_true HMM.out, anyB_false.2 (fun j hj => HK.out j (by omega))]; rfl)
                    have hkm2 : ¬ (k : Int) < (m i : Int) := by omega
                    go_wp2
                    go_round
                    case rel => exact ⟨i + 1, rfl, rfl, by omega, by go_num, hid (fun j hj => by (by_cases e : j = i; (subst e; exact HR.out); exact HI.out j (by omega)))⟩
                    case measure => simp [intOf]; omega
              · have HT : Hid (tabB s.size t.size n m f = false) := hid (tabB_row hin (by unfold badRow; rw [decide_eq_false hmm]; rfl))
                have HV := hid (provV_arg (n := n) (m := m) (f := f) (x := x) HZ.out (by rw [HT.out, Bool.and_false]))
                have g4 : ((m i : Int) != (t.size : Int) + 1) = true := by simp; omega
                clear hmm
                go_wp2
                refine bodyPost_ret (v := .tuple #[.bool false, .int .i64 2]) (by simp [results, Tryd.results43, go_sem]) rfl ⟨by rw [HV.out], HB1.out⟩
            · obtain rfl : i = n := by omega
              have HT := hid (tabB_ok HN.out HI.out)
              have HV := hid (provV_ok (n := i) (m := m) (f := f) (x := x) HZ.out HX.out HT.out)
              have HR := hid (tabB_true HT.out)
              obtain ⟨p, rfl⟩ : ∃ p' : Nat, p = (p' : Int) := ⟨p.toNat, by omega⟩
              obtain ⟨c, rfl⟩ : ∃ c' : Nat, c = (c' : Int) := ⟨c.toNat, by omega⟩
              clear HI
              go_wp2
              have HF5 := HB0
              go_loopw [10, 11, 75] (fun z10 z11 y wr => ∃ j : Nat, z10 = .bool false ∧ z11 = .int .i64 0 ∧ j ≤ i ∧ y = .int .i64 (j : Int) ∧ Hid (∀ a, a < j → ∀ k, k < t.size + 1 → badAt s.data.toList t.data.toList (p : Int) (c : Int) f a k = false) ∧ Hid (Below w1.heap.size w1 wr)) (fun _ _ y _ => i - (intOf y).toNat)
              case atStart => exact ⟨0, rfl, rfl, by omega, rfl, hid (by omega), hid (Below.refl _ _)⟩
              case round =>
                obtain ⟨j, rfl, rfl, hj, rfl, HO, HW⟩ := hrel
                obtain ⟨wo, rfl⟩ : ∃ wo : World, wo = wr := ⟨_, rfl⟩
                have hii := HN.out
                by_cases hji : j < i
                · have hji2 : (j : Int) < (i : Int) := by omega
                  obtain rfl := hA (by omega)
                  obtain ⟨hmj, _⟩ := HR.out.2 j (by omega)
                  obtain ⟨Ai, ci, y0, hh⟩ := HC.out j hji
                  obtain ⟨hmi, b2, o2, hlt2, hA2, hc2⟩ := hh
                  obtain rfl := hA2 (by omega)
                  have HC2 := hid hc2
                  have x0 := bcof HW.out y0
                  rw [hmj] at x0
                  clear y0 hc2 hlt2 hA2 hmi
                  go_wp2
                  clear x0
                  go_loopw [10, 11, 82] (fun z10 z11 y wr => ∃ k : Nat, z10 = .bool false ∧ z11 = .int .i64 0 ∧ k ≤ t.size + 1 ∧ y = .int .i64 (k : Int) ∧ Hid (∀ a, a < k → badAt s.data.toList t.data.toList (p : Int) (c : Int) f j a = false) ∧ Hid (Below w1.heap.size w1 wr)) (fun _ _ y _ => t.size + 1 - (intOf y).toNat)
                  case atStart => exact ⟨0, rfl, rfl, by omega, rfl, hid (by omega), HW⟩
                  case round =>
                    obtain ⟨k, rfl, rfl, hk, rfl, HK, HW2⟩ := hrel
                    clear HW
                    obtain ⟨wm, rfl⟩ : ∃ wm : World, wm = wr := ⟨_, rfl⟩
                    by_cases hkt : k < t.size + 1
                    · have hkt2 : (k : Int) < (t.size : Int) + 1 := by omega
                      have y1 := HC2.out k (by omega)
                      have x1 := bcof HW2.out y1
                      clear y1
                      go_wp2
                      clear x1
                      go_loopw [10, 11, 21] (fun z10 z11 y wr => ∃ e : Nat, z10 = .bool false ∧ z11 = .int .i64 0 ∧ e ≤ 4 ∧ y = .int .i64 ((e + 1 : Nat) : Int) ∧ Hid (∀ z ∈ uptoS s.data.toList t.data.toList (p : Int) (c : Int) j k e, badS s.data.toList t.data.toList (p : Int) (c : Int) f j k z = false) ∧ Hid (Below w1.heap.size w1 wr)) (fun _ _ y _ => 5 - (intOf y).toNat)
                      case atStart => exact ⟨0, rfl, rfl, by omega, rfl, hid (by simp [uptoS]), HW2⟩
                      case round =>
                        obtain ⟨e, rfl, rfl, he, rfl, HE, HW3⟩ := hrel
                        clear HW2
                        obtain ⟨wi, rfl⟩ : ∃ wi : World, wi = wr := ⟨_, rfl⟩
                        by_cases he4 : e = 4
                        · subst he4
                          have HAT : Hid (badAt s.data.toList t.data.toList (p : Int) (c : Int) f j k = false) := hid (by
                            unfold badAt
                            rw [stepsL_upto, List.any_eq_false]
                            intro z hz
                            rw [HE.out z hz]
                            exact Bool.false_ne_true)
                          go_wp2
                          go_roundw
                          case rel => exact ⟨k + 1, rfl, rfl, by omega, by go_num, hid (fun a ha => by (by_cases e : a = k; (subst e; exact HAT.out); exact HK.out a (by omega))), HW3⟩
                          case measure => simp [intOf]; omega
                        · have he3 : ((e + 1 : Nat) : Int) ≤ 4 := by omega
                          have hc5 := (HF5.out.below' HW3.out)
                          have c0 := hc5.cell 0
                          have c1 := hc5.cell 1
                          simp only [List.getElem?_toArray, List.getElem?_cons_zero, List.getElem?_cons_succ] at c0 c1
                          have HST := hid (rstep_any s t j k (e + 1) (p : Int) (c : Int) wi (by omega) (by omega) (by omega) (by omega) (by omega))
                          obtain ⟨ok, hok⟩ : ∃ ok, okS s.data.toList t.data.toList j k (e + 1) = ok := ⟨_, rfl⟩
                          obtain ⟨di, hdi⟩ : ∃ di, diS (e + 1) = di := ⟨_, rfl⟩
                          obtain ⟨dk, hdk⟩ : ∃ dk, dkS (e + 1) = dk := ⟨_, rfl⟩
                          obtain ⟨co, hco⟩ : ∃ co, coN p c (e + 1) = co := ⟨_, rfl⟩
                          have hup := uptoS_succ s.data.toList t.data.toList (p : Int) (c : Int) j k e
                          have hsp := fun h => okS_spec (S := s.data.toList) (T := t.data.toList) (i := j) (k := k) (e := e + 1) (p := p) (c := c) h (by simp; omega) (by simp; omega) (by omega) (by omega)
                          unfold seg at hup
                          rw [coS_N, hok, hdi, hdk, hco] at HST hup
                          rw [hok, hdi, hdk, hco] at hsp
                          clear hc5
                          go_wp2_with fail
                          refine (HST.out).mono ?_
                          rintro en w3 ⟨rfl, hb3⟩
                          have HW4 := hid (btr HW3.out hb3 HW3.out.size)
                          clear HST HW3 hb3 c0 c1
                          cases ok
                          case false =>
                            have HU := hid hup
                            clear hup hsp
                            go_wp2
                            go_roundw
                            case rel =>
                              refine ⟨e + 1, rfl, rfl, by omega, congrArg (Value.int .i64) (by omega), hid fun z hz => ?_, HW4⟩
                              rw [HU.out] at hz
                              exact HE.out z (by simpa using hz)
                            case measure => simp [intOf]; omega
                          case true =>
                            obtain ⟨q1, q2, q3, q4, q5, q6⟩ := hsp rfl
                            have m1 : s.data.toList.length = s.size := by simp
                            have m2 : t.data.toList.length = t.size := by simp
                            rw [m1] at q1
                            rw [m2] at q2
                            clear hsp
                            obtain ⟨j', hj'⟩ : ∃ j', j + di = j' := ⟨_, rfl⟩
                            obtain ⟨k', hk'⟩ : ∃ k', k + dk = k' := ⟨_, rfl⟩
                            have hmj' := (HR.out.2 j' (by omega)).1
                            have hfb := (HR.out.2 j (by omega)).2 k (by omega)
                            obtain ⟨b3, o3, c3, z0, z1⟩ := TabAt.num (a := j') (k := k') HC.out (by omega) (by omega)
                            rw [hmj'] at z0
                            have y0 := bcof HW4.out z0
                            have y1 := bcof HW4.out z1
                            have ei : IntKind.i64.wrap ((j : Int) + (di : Int)) = (j' : Int) := by rw [IntWalk.i64_in _ (by omega)]; omega
                            have ek : IntKind.i64.wrap ((k : Int) + (dk : Int)) = (k' : Int) := by rw [IntWalk.i64_in _ (by omega)]; omega
                            have ei2 : (j : Int) + (di : Int) = (j' : Int) := by omega
                            have ek2 : (k : Int) + (dk : Int) = (k' : Int) := by omega
                            have b3' : (j' : Int) < (i : Int) := by omega
                            have b4' : (k' : Int) < (t.size : Int) + 1 := by omega
                            clear z0 z1 m1 m2
                            by_cases hq : f j k + (co : Int) < f j' k'
                            · have HPB := hid (prov_bad (S := s.data.toList) (T := t.data.toList) (p := p) (c := c) (f := f) (j := j) (k := k) (e := e + 1) (n := x) (by simp; omega) (by simp; omega) (by omega) hok (by rw [hdi, hdk, hco, hj', hk']; exact hq))
                              clear hup
                              go_wp2
                              refine bodyPost_ret (v := .tuple #[.bool false, .int .i64 0]) (by simp [results, Tryd.results43, go_sem]) rfl ⟨by rw [HV.out, HPB.out], btr HB1.out HW4.out HB1.out.size⟩
                            · have HU := hid hup
                              have HQ : Hid (badS s.data.toList t.data.toList (p : Int) (c : Int) f j k (((e + 1 : Nat) : Int), ((j + di : Nat) : Int), ((k + dk : Nat) : Int), (co : Int)) = false) := hid (by
                                unfold badS
                                simp only [Int.toNat_natCast, hj', hk']
                                exact decide_eq_false hq)
                              have hqd : decide (f j k + (co : Int) < f j' k') = false := decide_eq_false hq
                              clear hup hq
                              go_wp2
                              go_roundw
                              case rel =>
                                refine ⟨e + 1, rfl, rfl, by omega, congrArg (Value.int .i64) (by omega), hid fun z hz => ?_, HW4⟩
                                rw [HU.out, if_pos True.intro, List.mem_append, List.mem_singleton] at hz
                                rcases hz with hz | rfl
                                · exact HE.out z hz
                                · exact HQ.out
                              case measure => simp [intOf]; omega
                    · obtain rfl : k = t.size + 1 := by omega
                      have hkt2 : ¬ ((t.size : Int) + 1) < (t.size : Int) + 1 := by omega
                      go_wp2
                      go_roundw
                      case rel =>
                        (repeat apply Exists.intro)
                        refine ⟨?rr, ?ff⟩
                        case ff => exact ⟨rfl, rfl, rfl, rfl, rfl, rfl, rfl, rfl, rfl, rfl, rfl, rfl⟩
                        case rr => exact ⟨rfl, rfl, j + 1, by omega, by go_num, hid (fun a ha => by (by_cases e : a = j; (subst e; exact HK.out); exact HO.out a (by omega)))⟩
                      case measure => simp [intOf]; omega
                · obtain rfl : j = i := by omega
                  have HV3 := HV
                  rw [hii] at HV3
                  have HD := hid (prov_done (S := s.data.toList) (T := t.data.toList) (p := (p : Int)) (c := (c : Int)) (f := f) (n := x) (fun a ha k hk => HO.out a (by simp at ha; omega) k (by simpa using hk)))
                  have m1 : s.data.toList.length = s.size := by simp
                  have m2 : t.data.toList.length = t.size := by simp
                  rw [m1, m2] at HD
                  obtain ⟨b3, o3, c3, z0, z1⟩ := TabAt.num (a := 0) (k := 0) HC.out (by omega) (by rw [(HR.out.2 0 (by omega)).1]; omega)
                  rw [(HR.out.2 0 (by omega)).1] at z0
                  obtain ⟨b4, o4, c4, z2, z3⟩ := TabAt.num (a := s.size) (k := t.size) HC.out (by omega) (by rw [(HR.out.2 s.size (by omega)).1]; omega)
                  rw [(HR.out.2 s.size (by omega)).1] at z2
                  obtain rfl := hA (by omega)
                  have y0 := bcof HW.out z0
                  have y1 := bcof HW.out z1
                  rw [Nat.add_zero] at y0 y1
                  have y2 := bcof HW.out z2
                  have y3 := bcof HW.out z3
                  have i1 : (0 : Int) < (j : Int) := by omega
                  have i2 : (0 : Int) < (t.size : Int) + 1 := by omega
                  have i3 : (s.size : Int) < (j : Int) := by omega
                  have i4 : (t.size : Int) < (t.size : Int) + 1 := by omega
                  have ji : ¬ (j : Int) < (j : Int) := by omega
                  clear z0 z1 z2 z3 m1 m2 hlt HO
                  by_cases h00 : f 0 0 = 0
                  · by_cases hfn : x ≤ f s.size t.size
                    · have HV2 : Hid (provB s.data.toList t.data.toList (p : Int) (c : Int) f x = true) := hid (by rw [HD.out, h00, decide_eq_true hfn]; rfl)
                      go_wp2
                      refine bodyPost_ret (v := .tuple #[.bool true, .int .i64 0]) (by simp [results, Tryd.results43, go_sem]) rfl ⟨by rw [HV3.out, HV2.out], btr HB1.out HW.out HB1.out.size⟩
                    · have HV2 : Hid (provB s.data.toList t.data.toList (p : Int) (c : Int) f x = false) := hid (by rw [HD.out, decide_eq_false hfn, Bool.and_false])
                      have hfd : decide (x ≤ f s.size t.size) = false := decide_eq_false hfn
                      clear hfn
                      go_wp2
                      refine bodyPost_ret (v := .tuple #[.bool false, .int .i64 0]) (by simp [results, Tryd.results43, go_sem]) rfl ⟨by rw [HV3.out, HV2.out], btr HB1.out HW.out HB1.out.size⟩
                  · have h00b : (f 0 0 == 0) = false := by simpa using h00
                    have HV2 : Hid (provB s.data.toList t.data.toList (p : Int) (c : Int) f x = false) := hid (by rw [HD.out, h00b, Bool.false_and])
                    clear h00
                    go_wp2
                    refine bodyPost_ret (v := .tuple #[.bool false, .int .i64 0]) (by simp [results, Tryd.results43, go_sem]) rfl ⟨by rw [HV3.out, HV2.out], btr HB1.out HW.out HB1.out.size⟩
    · have HV := hid (provV_arg (n := n) (m := m) (f := f) (x := x) HZ.out (by unfold tabB; rw [decide_eq_false hnn]; simp))
      have g1 : ((n : Int) != (s.size : Int) + 1) = true := by simp; omega
      clear hnn
      go_wp2
      refine bodyPost_ret (v := .tuple #[.bool false, .int .i64 2]) (by simp [results, Tryd.results43, go_sem]) rfl ⟨by rw [HV.out], HB1.out⟩
  · have HV := hid (provV_bad (n := n) (m := m) (f := f) (x := x) hz)
    have hne : (codeP s t p c != 0) = true := by simpa using hz
    clear hz
    go_wp2
    refine bodyPost_ret (v := .tuple #[.bool false, .int .i64 (codeP s t p c)]) (by simp [results, Tryd.results43, go_sem]) rfl ⟨by rw [HV.out], HB1.out⟩
end Go.Proofs.YtmhlgnhfbickdaaDoor
