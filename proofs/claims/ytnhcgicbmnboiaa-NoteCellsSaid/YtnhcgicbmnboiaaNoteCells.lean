/- The statement NoteCells, for the evaluator. -/
import Derived.Test.YtnhcgicbmnboiaaNotePlays
namespace Go.Proofs.Ytnhcgicbmnboiaa.Ev
set_option linter.unusedSimpArgs false
set_option linter.unusedVariables false
open Go
set_option maxRecDepth 100000

def boolsA (bs : List Bool) : List AV := bs.map .bool

/-- The flags at object L, the words the same. -/
structure Flags (i j L : Nat) (bs : List Bool) (h : AHeap) : Prop where
  n4 : bs.length = 4
  mem : ∃ cnt, MemAt h i j (bs.map wOf) cnt
  obj : h.objs[L]? = some (.cells false (boolsA bs) none)

/-- Ahead of a round. -/
structure N1 (sl : AV) (ds : List Int) (i j L c : Nat) (fr : AFrame) : Prop where
  len : fr.length = 68
  s3 : fr[3]? = some (.ptr i 0)
  s4 : fr[4]? = some (.ptr L 0)
  s19 : fr[19]? = some sl
  s20 : fr[20]? = some (.int .i64 ds.length)
  s21 : fr[21]? = some (.int .i64 c)

inductive N1x (sl : AV) (ds : List Int) (i j L c : Nat) (fr : AFrame) (h : AHeap) : Prop where
  | mk (bs : List Bool) (f : N1 sl ds i j L c fr) (m : Flags i j L bs h) (r : h.objs[0]? = some (rowA (ds.map (.int .u8 ·)))) : N1x sl ds i j L c fr h

/-- Ahead of a round of the inner loop. -/
structure N2 (sl : AV) (ds : List Int) (i j L c k : Nat) (bs : List Bool) (fr : AFrame) (h : AHeap) : Prop where
  f : N1 sl ds i j L c fr
  s56 : fr[56]? = some (.int .i64 k)
  m : Flags i j L bs h
  r : h.objs[0]? = some (rowA (ds.map (.int .u8 ·)))

theorem wOf_wd {bs : List Bool} {q : Nat} (hq : q < bs.length) : wd (bs.map wOf) q = wOf bs[q] := by simp [wd, hq]

theorem noteCells_ok (c0 : Option Nat) (l0 : List (List AV)) (hs0 : SlOk c0 l0.length) (hf0 : ∀ r ∈ l0, fits [.int .u8] r) :
    ∃ h', evCall T 7 5 [slA c0 0 l0.length] ⟨[rowA l0.flatten], []⟩ = some (.bool true, h') := by
  obtain ⟨ds, hd, hl, hw⟩ := int_rows l0 hf0
  rw [hl] at hs0
  rw [hd, hl]
  generalize hsl : slA c0 0 ds.length = sl
  have hlen : sl.lenA = some ds.length := by rw [← hsl]; exact slA_len hs0
  have hidx : ∀ c : Nat, c < ds.length → idxAddrV 1 none sl (.int .i64 c) = some (.ptr 0 c) := fun c hc => by
    rw [← hsl, slA_idx hs0 (by omega) (by omega)]; simp
  obtain ⟨h0, e0, g0⟩ := lives_ok 1 ⟨[rowA (ds.map (.int .u8 ·))], []⟩
  obtain ⟨h00, e00, g00⟩ := lives_ok 1 h0
  obtain ⟨h1, i, j, e1, m1, g1, hi, hj⟩ := new_mem 5 h0 4
  have l1 := m1.lt
  simp only [Nat.reduceAdd] at e0 e00 e1
  have hz : List.replicate (min (max (0 : Int) 4) 65536).toNat (0 : Int) = [false, false, false, false].map wOf := rfl
  rw [hz] at m1
  have a0 : h0.objs[0]? = some (rowA (ds.map (.int .u8 ·))) := g0 0 _ rfl
  have hp : 0 < h0.objs.length := (List.getElem?_eq_some_iff.1 a0).1
  have gp := grew_push h1 (.cells false [.bool false, .bool false, .bool false, .bool false] none)
  have a1 := gp _ _ (g1 _ _ a0)
  have m2 := m1.grew gp
  have ha := push_new h1 (.cells false [.bool false, .bool false, .bool false, .bool false] none)
  suffices hw : ∃ v h', evCall T 7 5 [sl] ⟨[rowA (ds.map (.int .u8 ·))], []⟩ = some (v, h') ∧ v = .bool true by
    obtain ⟨v, h', e, rfl⟩ := hw
    exact ⟨h', e⟩
  refine call_of_wp T_5 ?_
  by_cases hb : (20 : Int) < ds.length
  · simp [F5, e0, e00, hlen, hb]
  simp [F5, e0, e1, hlen, hb]
  generalize h1.push (.cells false [.bool false, .bool false, .bool false, .bool false] none) = h2 at *
  have hL : h1.objs.length ≠ i ∧ h1.objs.length ≠ j ∧ h1.objs.length ≠ 0 := by omega
  generalize h1.objs.length = L at *
  have hget : ∀ {h : AHeap} (c : Nat) (hc : c < ds.length), h.objs[0]? = some (rowA (ds.map (.int .u8 ·))) → h.cell 0 c = some (.int .u8 ds[c]) := fun c hc ho => rowA_cell ho (by simp [hc])
  have hne : (0 : Nat) ≠ i ∧ (0 : Nat) ≠ j := by omega
  have hix : ∀ q : Nat, q < 4 → idxAddrV 1 (some 4) (.ptr L 0) (.int .i64 q) = some (.ptr L q) := fun q hq => by
    have h1 : (q : Int) < 4 := by omega
    simp [idxAddrV, h1]
  have cellb : ∀ {h : AHeap} {bs : List Bool} (q : Nat) (hq : q < bs.length), h.objs[L]? = some (.cells false (boolsA bs) none) → h.cell L q = some (.bool bs[q]) := fun q hq ho => by
    rw [cell_at ho]; simp [boolsA, hq]
  have putb : ∀ {h : AHeap} {bs : List Bool} {cnt : Int} (q : Nat) (hq : q < bs.length) (b : Bool), MemAt h i j ((bs.set q b).map wOf) cnt → bs.length = 4 → h.objs[L]? = some (.cells false (boolsA bs) none) → h.objs[0]? = some (rowA (ds.map (.int .u8 ·))) →
      ∃ h', h.write L q [.bool b] = some h' ∧ Flags i j L (bs.set q b) h' ∧ h'.objs[0]? = some (rowA (ds.map (.int .u8 ·))) := fun {h bs cnt} q hq b m h4 ho hr => by
    refine ⟨h.put L (.cells false (boolsA (bs.set q b)) none), ?_, ⟨by simp [h4], ⟨cnt, ?_⟩, put_at ho _⟩, by rw [put_ne hL.2.2]; exact hr⟩
    · rw [write_at ho, if_pos ⟨by simp [boolsA]; omega, rfl⟩, splice_one (by simpa [boolsA] using hq)]
      simp [boolsA, List.map_set]
    · obtain ⟨ne, c, ri, rj, hi, hj⟩ := m
      exact ⟨ne, c, ri, rj, by rw [put_ne hL.1]; exact hi, by rw [put_ne hL.2.1]; exact hj⟩
  refine Wp.mono (Q := fun x fr h => x = .exit 0 ∧ fr.length = 68) (Wp.loop (I := fun n fr h => ∃ c, c + n = ds.length ∧ N1x sl ds i j L c fr h) ?_ (n := ds.length) (by simp only [rounds]; omega) ?_) ?_
  · rintro n fr h ⟨c, hc, bs, ⟨len, s3, s4, s19, s20, s21⟩, ⟨h4, ⟨cnt, m⟩, ho⟩, hr⟩
    have hcw : IntKind.wrap .i64 ((c : Int) + 1) = ((c + 1 : Nat) : Int) := by rw [wrap_i64 (by omega) (by omega)]; omega
    -- the inner loop, wherever it begins
    have inner : ∀ (fr : AFrame) (h : AHeap) (bs : List Bool), c < ds.length → N2 sl ds i j L c 0 bs fr h → ∀ Q : APost, (∀ fr h bs, N2 sl ds i j L c 4 bs fr h → Q (.exit 2) fr h) → Wp (evCall T 6) (.loop (.seq (.region [
        ⟨(some 57), .bin .lss (.tmp 56) (.const (.int .i64 4)), none⟩])
      (.seq (.cond (.tmp 57)
        (.skip)
        (.exit 2))
      (.seq (.block 3 (.seq (.region [
        ⟨(some 58), .mv (.tmp 56), none⟩,
        ⟨(some 9), .mv (.tmp 58), none⟩])
      (.seq (.draw [
        (⟨(some 59), .mv (.tmp 3), none⟩, .still),
        (⟨(some 60), .mv (.tmp 9), none⟩, .still),
        (⟨(some 61), .call 18 [(.tmp 59), (.tmp 60)], none⟩, .loud),
        (⟨(some 62), .mv (.tmp 9), none⟩, .still),
        (⟨(some 63), .idxAddr 1 (some 4) (.tmp 4) (.tmp 62), none⟩, .still),
        (⟨(some 64), .load1 (.tmp 63), none⟩, .reads 0 1),
        (⟨(some 65), .eqBool true (.tmp 61) (.tmp 64), none⟩, .still)])
      (.cond (.tmp 65)
        (.seq (.region [
          ⟨(some 2), .mv (.const (.bool false)), none⟩])
        (.ret))
        (.skip)))))
      (.region [
        ⟨(some 66), .bin .add (.tmp 56) (.const (.int .i64 1)), none⟩,
        ⟨(some 56), .mv (.tmp 66), none⟩]))))) fr h Q := by
      intro fr h bs hcl hN Q hQ
      refine Wp.mono (Q := fun x fr h => x = .exit 2 ∧ N2 sl ds i j L c 4 bs fr h) (Wp.loop (I := fun n fr h => ∃ k, k + n = 4 ∧ N2 sl ds i j L c k bs fr h) ?_ (n := 4) (by simp only [rounds]; omega) ⟨0, rfl, hN⟩) ?_
      · rintro n fr h ⟨k, hk, ⟨len, s3, s4, s19, s20, s21⟩, s56, ⟨h4, ⟨cnt, m⟩, ho⟩, hr⟩
        by_cases hk4 : k < 4
        · obtain ⟨h', e, m', k'⟩ := is_mem m 2 (k := k) (by omega) (by simp; omega)
          have ho' := k' _ _ hL.1 hL.2.1 ho
          have hr' := k' _ _ hne.1 hne.2 hr
          have hkb : k < bs.length := by omega
          have hv : (wd (bs.map wOf) k = 1) = (bs[k] = true) := by rw [wOf_wd hkb]; cases bs[k] <;> simp [wOf]
          simp [hv] at e
          have hki : (k : Int) < 4 := by omega
          have hkw : IntKind.wrap .i64 ((k : Int) + 1) = ((k + 1 : Nat) : Int) := by rw [wrap_i64 (by omega) (by omega)]; omega
          simp [-getElem?_pos, evDraw, steady, stable, s3, s4, s56, List.getElem?_set, len, hki, hix k hk4, e, cellb k (by omega) ho, cellb k (by omega) ho', hkw]
          exact ⟨n - 1, by omega, k + 1, by omega, ⟨by simp [len], by simp [-getElem?_pos, List.getElem?_set, len, s3], by simp [-getElem?_pos, List.getElem?_set, len, s4], by simp [-getElem?_pos, List.getElem?_set, len, s19], by simp [-getElem?_pos, List.getElem?_set, len, s20], by simp [-getElem?_pos, List.getElem?_set, len, s21]⟩, by simp [-getElem?_pos, List.getElem?_set, len], ⟨h4, ⟨_, m'⟩, ho'⟩, hr'⟩
        · obtain rfl : k = 4 := by omega
          simp [-getElem?_pos, s56, List.getElem?_set, len]
          exact ⟨⟨by simp [len], by simp [-getElem?_pos, List.getElem?_set, len, s3], by simp [-getElem?_pos, List.getElem?_set, len, s4], by simp [-getElem?_pos, List.getElem?_set, len, s19], by simp [-getElem?_pos, List.getElem?_set, len, s20], by simp [-getElem?_pos, List.getElem?_set, len, s21]⟩, by simp [-getElem?_pos, List.getElem?_set, len, s56], ⟨h4, ⟨cnt, m⟩, ho⟩, hr⟩
      · rintro x fr h ⟨rfl, hN⟩
        exact hQ _ _ _ hN
    by_cases hcl : c < ds.length
    · have hwf := hw _ (List.getElem_mem hcl)
      generalize hkd : ds[c] = kd at hwf
      have hk0 : 0 ≤ kd ∧ kd < 256 := by
        simp [Lit.wf, IntKind.min, IntKind.max, IntKind.signed, IntKind.bits] at hwf
        omega
      obtain ⟨q, hq, hq4⟩ : ∃ q : Nat, kd.tmod 4 = q ∧ q < 4 := by
        refine ⟨(kd.tmod 4).toNat, ?_, ?_⟩
        · have := Int.tmod_nonneg 4 hk0.1; omega
        · have := Int.tmod_lt_of_pos kd (show (0 : Int) < 4 by omega); omega
      have hkw : IntKind.wrap .i64 kd = kd := wrap_i64 (by omega) (by omega)
      have hqb : q < bs.length := by omega
      have hbr : (kd.tmod 2 = 0 ∨ 200 < kd) ∨ (¬ kd.tmod 2 = 0 ∧ ¬ 200 < kd) := by omega
      rcases hbr with hbr | hbr
      · obtain ⟨h', e, m', k'⟩ := wake_mem m 2 (k := q) (by omega) (by simp; omega)
        have ho' := k' _ _ hL.1 hL.2.1 ho
        have hr' := k' _ _ hne.1 hne.2 hr
        have hv : (wd (bs.map wOf) q = 0) = (bs[q] = false) := by rw [wOf_wd hqb]; cases bs[q] <;> simp [wOf]
        have hm : MemAt h' i j ((bs.set q true).map wOf) (IntKind.wrap .i64 (cnt + 1)) := by
          simp only [Int.toNat_natCast, hv] at m'
          rw [List.map_set]
          by_cases hbq : bs[q] = false
          · rw [if_pos hbq] at m'
            exact m'
          · rw [if_neg hbq] at m'
            have : (bs.map wOf).set q (wOf true) = bs.map wOf := by
              have hb1 : bs[q] = true := by simpa using hbq
              rw [← hb1, ← List.map_set]
              simp
            rw [this]
            exact m'
        obtain ⟨h5, e5, f5, r5⟩ := putb q hqb true hm h4 ho' hr'
        simp [hv] at e
        have hcond : (if kd.tmod 2 = 0 then true else decide (200 < kd)) = true := by
          rcases hbr with h | h <;> simp [h]
        by_cases h20 : kd.tmod 2 = 0
        all_goals
          have h21 : kd.tmod 2 = 0 ∨ 200 < kd := hbr
          simp [-getElem?_pos, evDraw, steady, stable, s3, s4, s19, s20, s21, List.getElem?_set, len, hcl, hidx c hcl, hget c hcl hr, hkd, hkw, binV_rem, hq, h20, hix q hq4, e, cellb q hqb ho, cellb q hqb ho', e5]
          first
          | (have h22 : 200 < kd := hbr.resolve_left h20
             simp [-getElem?_pos, evDraw, steady, stable, s3, s4, s19, s20, s21, List.getElem?_set, len, hcl, hidx c hcl, hget c hcl hr, hkd, hkw, binV_rem, hq, h20, h22, hix q hq4, e, cellb q hqb ho, cellb q hqb ho', e5])
          | skip
          refine inner _ _ (bs.set q true) hcl ⟨⟨by simp [len], by simp [-getElem?_pos, List.getElem?_set, len, s3], by simp [-getElem?_pos, List.getElem?_set, len, s4], by simp [-getElem?_pos, List.getElem?_set, len, s19], by simp [-getElem?_pos, List.getElem?_set, len, s20], by simp [-getElem?_pos, List.getElem?_set, len, s21]⟩, by simp [-getElem?_pos, List.getElem?_set, len], f5, r5⟩ _ ?_
          rintro fr h bs ⟨⟨len, s3, s4, s19, s20, s21⟩, s56, m, r⟩
          simp [-getElem?_pos, s21, List.getElem?_set, len, hcw]
          exact ⟨n - 1, by omega, c + 1, by omega, bs, ⟨by simp [len], by simp [-getElem?_pos, List.getElem?_set, len, s3], by simp [-getElem?_pos, List.getElem?_set, len, s4], by simp [-getElem?_pos, List.getElem?_set, len, s19], by simp [-getElem?_pos, List.getElem?_set, len, s20], by simp [-getElem?_pos, List.getElem?_set, len]⟩, m, r⟩
      · obtain ⟨h', e, m', k'⟩ := step_mem m 2 (k := q) (u := 9223372036854775807) (now := 0) (by omega) (by simp; omega)
        have ho' := k' _ _ hL.1 hL.2.1 ho
        have hr' := k' _ _ hne.1 hne.2 hr
        have hv : (wd (bs.map wOf) q = 1) = (bs[q] = true) := by rw [wOf_wd hqb]; cases bs[q] <;> simp [wOf]
        have hv2 : (told (wd (bs.map wOf) q) 9223372036854775807 0 = 1) = (bs[q] = true) := by rw [wOf_wd hqb]; cases bs[q] <;> simp [wOf, told]
        have hm : MemAt h' i j ((bs.set q false).map wOf) (IntKind.wrap .i64 (cnt + 1)) := by
          simp only [Int.toNat_natCast, hv] at m'
          rw [List.map_set]
          by_cases hbq : bs[q] = true
          · rw [if_pos hbq] at m'
            exact m'
          · rw [if_neg hbq] at m'
            have : (bs.map wOf).set q (wOf false) = bs.map wOf := by
              have hb1 : bs[q] = false := by simpa using hbq
              rw [← hb1, ← List.map_set]
              simp
            rw [this]
            exact m'
        obtain ⟨h5, e5, f5, r5⟩ := putb q hqb false hm h4 ho' hr'
        simp only [Nat.reduceAdd, Int.toNat_natCast] at e
        simp [-getElem?_pos, fillA, splice, s3, s4, s19, s20, s21, List.getElem?_set, len, hcl, hidx c hcl, hget c hcl hr, hkd, hkw, binV_rem, hq, hbr.1, hbr.2, hix q hq4, e, hv2, cellb q hqb ho', e5]
        refine inner _ _ (bs.set q false) hcl ⟨⟨by simp [len], by simp [-getElem?_pos, List.getElem?_set, len, s3], by simp [-getElem?_pos, List.getElem?_set, len, s4], by simp [-getElem?_pos, List.getElem?_set, len, s19], by simp [-getElem?_pos, List.getElem?_set, len, s20], by simp [-getElem?_pos, List.getElem?_set, len, s21]⟩, by simp [-getElem?_pos, List.getElem?_set, len], f5, r5⟩ _ ?_
        rintro fr h bs ⟨⟨len, s3, s4, s19, s20, s21⟩, s56, m, r⟩
        simp [-getElem?_pos, s21, List.getElem?_set, len, hcw]
        exact ⟨n - 1, by omega, c + 1, by omega, bs, ⟨by simp [len], by simp [-getElem?_pos, List.getElem?_set, len, s3], by simp [-getElem?_pos, List.getElem?_set, len, s4], by simp [-getElem?_pos, List.getElem?_set, len, s19], by simp [-getElem?_pos, List.getElem?_set, len, s20], by simp [-getElem?_pos, List.getElem?_set, len]⟩, m, r⟩
    · obtain rfl : c = ds.length := by omega
      simp [-getElem?_pos, s20, s21, List.getElem?_set, len]
  · exact ⟨0, by omega, [false, false, false, false], ⟨rfl, rfl, rfl, rfl, rfl, rfl⟩, ⟨rfl, ⟨0, m2⟩, ha⟩, a1⟩
  · rintro x fr h ⟨rfl, len⟩
    simp [-getElem?_pos, List.getElem?_set, len]

end Go.Proofs.Ytnhcgicbmnboiaa.Ev
