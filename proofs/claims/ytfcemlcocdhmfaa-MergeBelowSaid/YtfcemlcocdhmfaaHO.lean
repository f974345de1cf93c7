/- merge.All: the lists are pushed. -/
import Derived.Test.YtfcemlcocdhmfaaHP
import Derived.Deep.CutRange
namespace Go.Proofs.Ytfcemlcocdhmfaa
open Go.RowKit Go
set_option linter.unusedVariables false
set_option linter.unusedSimpArgs false

/-- A slice of lists, as it is read. -/
def LstsB (w : World) (A : Option Addr) (n : Nat) (ls : List Lst) : Prop := ls.length = n ∧ Rd w w.heap.size 1 A n (ls.map (·.1)) ∧ ∀ x ∈ ls, RowB w x.1 x.2 ∧ x.2.length ≤ 1099511627776 ∧ ∀ q ∈ x.2, LenR q
theorem RowB.runs {w w' : World} {v : Value} {qs : List El} {B p : Nat} (h : RowB w v qs) (hb : ∀ p : Addr, p.block < w.heap.size → w'.cell? p = w.cell? p) (h0 : qs ≠ []) (hl : qs.length ≤ 1099511627776) (hp : p ≤ 1000000) : RnB w' w.heap.size ⟨v, qs, p⟩ := by
  obtain ⟨A, c, e, hc, hr, hq⟩ := h
  exact ⟨⟨A, c, e, hc, hr.of_cells hb, fun q hq' => ⟨(hq q hq').1.of_cells hb, (hq q hq').2.of_cells hb⟩⟩, h0, hl, hp⟩
theorem LstsB.at_ {w w' : World} {A : Option Addr} {n : Nat} {ls : List Lst} (h : LstsB w A n ls) (hb : Below w.heap.size w w') {k : Nat} (hk : k < ls.length) :
    ∃ b off A' n' c', A = some ⟨b, off, none⟩ ∧ ls[k].1 = .slice A' n' c' ∧ ls[k].2.length = n' ∧ w'.cell? ⟨b, off + k, none⟩ = some (.slice A' n' c') ∧ RowB w' ls[k].1 ls[k].2 ∧ ls[k].2.length ≤ 1099511627776 := by
  obtain ⟨h1, h2, h3⟩ := h
  obtain ⟨b, off, e, hb', hc⟩ := h2.2 (by omega)
  obtain ⟨g1, g2, g3⟩ := h3 _ (List.getElem_mem hk)
  obtain ⟨A', c', e'⟩ := g1.form
  refine ⟨b, off, A', _, c', e, e', rfl, ?_, g1.up hb, g2⟩
  rw [hb.cell (p := ⟨b, off + k, none⟩) hb', hc k (by omega), ← e']
  simp [hk]
theorem many_runs : ∀ (ls : List Lst) (k : Nat), many (runsOf k ls) = (ls.map fun x => x.2.length).sum
  | [], k => rfl
  | x :: ls, k => by
    have ih := many_runs ls (k + 1)
    unfold many at ih ⊢
    rw [runsOf, List.map_append, List.sum_append, ih, List.map_cons, List.sum_cons]
    congr 1
    by_cases e : x.2 = []
    · rw [runOf_nil e, e]; rfl
    · rw [runOf_one e]; simp
theorem runs_len {ls : List Lst} {hs : List Rn} (hp : hs.Perm (runsOf 0 ls)) (h : ∀ x ∈ ls, ∀ q ∈ x.2, LenR q) : ∀ r ∈ hs, ∀ q ∈ r.els, LenR q := by
  intro r hr q hq
  obtain ⟨j, x, h1, rfl, _⟩ := runsOf_mem ls 0 r (hp.mem_iff.1 hr)
  exact h x (List.mem_of_getElem? h1) q hq
theorem rec_one {A A' : Option Addr} {n n' c c' : Nat} {s : Int} {d : Bool} : ∀ u ∈ (#[.slice A n c, .int .i64 s, .bool d, .slice A' n' c'] : Array Value).toList, u.oneCell' = true := by
  intro u hu; simp at hu; rcases hu with rfl | rfl | rfl | rfl <;> rfl
def isNew (l : List Rc) (x : Rc) : Bool := match l.getLast? with
  | none => true
  | some a => decide (ord2 a x ≠ 0)
theorem took_isNew {l : List Rc} {x : Rc} (h : isNew l x = true) : took ord2 l x = l ++ [x] := by
  unfold isNew at h; unfold took
  split at h
  · rename_i e; rw [e]
  · rename_i a e; rw [e]; simp at h; simp [h]
theorem took_notNew {l : List Rc} {x : Rc} (h : isNew l x = false) : took ord2 l x = l := by
  unfold isNew at h; unfold took
  split at h
  · simp at h
  · rename_i a e; rw [e]; simp at h; simp [h]
theorem isNew_nil (x : Rc) : isNew [] x = true := rfl
theorem isNew_snoc (l : List Rc) (a x : Rc) : isNew (l ++ [a]) x = decide (ord2 a x ≠ 0) := by simp [isNew]
theorem hp_nil : Hp LessR (fn []) 0 := fun j _ hj => absurd hj (Nat.not_lt_zero _)
theorem ht_start {w : World} {B gh : Nat} {A : Option Addr} {c : Nat} (h : Hdr w gh (.slice A 0 c)) (ho : w.ownsRow B 47 2 (.slice A 0 c) 0 []) (hn : (Value.slice A 0 c).ownBlock ≠ some gh) (hB : B ≤ gh) : HT w B gh [] :=
  ⟨⟨_, h, ho, hn⟩, fun r hr => by simp at hr, hp_nil, hB⟩
theorem HT.below {w w' : World} {B gh : Nat} {hs : List Rn} (h : HT w B gh hs) (hb : Below w.heap.size w w') : HT w' B gh hs := by
  obtain ⟨⟨v, h1, h2, h3⟩, h4, h5, h6⟩ := h
  have hlt := h1.lt
  exact ⟨⟨v, ⟨blk_below h1.cell hb hlt⟩, own_below h2 hb, h3⟩, fun r hr => (h4 r hr).keep fun p hp => hb.cell (by omega), h5, h6⟩
/-- What All tells. -/
def Alls (ls : List Lst) (w : World) (e : Ending) (w' : World) : Prop :=
  (if ∀ x ∈ ls, inO (recs x) = true then ∃ vo qs, e = .returned (.tuple #[vo, .int .i64 0]) ∧ RowB w' vo qs ∧ IsMerge ord2 (LL ls) (qs.map El.r) ∧ (∀ q ∈ qs, LenR q) else e = .returned (.tuple #[.slice none 0 0, .int .i64 10])) ∧ Below w.heap.size w w'
set_option maxHeartbeats 3200000 in
theorem all_any (A : Option Addr) (n c : Nat) (ls : List Lst) (w : World) (h : LstsB w A n ls) (hn : n < 1000000) (htot : (ls.map fun x => x.2.length).sum ≤ 1000000000) :
    Calls Try.prog 11 #[.slice A n c] w (Alls ls w) := by
  have H := Lib.hid h; have HN : Hid (ls.length = n) := h.1; have HTOT := Lib.hid htot
  clear h htot
  obtain ⟨i0, hi, hz0, hz1, hz2⟩ := info_parts rec_info
  have hi' := Lib.hid hi; clear hi
  go_enter Try.func11, Try.ntmps11
  go_wp2_with fail
  have ht0 : HT ((w.alloc (.cells #[] 47)).alloc (.cells #[.slice (some ⟨w.heap.size, 0, none⟩) 0 0] 44)) w.heap.size (w.heap.size + 1) [] :=
    ht_start ⟨blk_new _ _ (by simp)⟩ (World.ownsRow.alloc (World.ownsRow_made w #[] 0 (Nat.le_refl _) (by unfold maxLen; omega) rfl) _) (by intro e; injection e with e; simp at e) (by omega)
  have hb0 : Below w.heap.size w ((w.alloc (.cells #[] 47)).alloc (.cells #[.slice (some ⟨w.heap.size, 0, none⟩) 0 0] 44)) := ((Below.refl _ _).alloc (Nat.le_refl _) _).alloc (by simp) _
  generalize (w.alloc (.cells #[] 47)).alloc (.cells #[.slice (some ⟨w.heap.size, 0, none⟩) 0 0] 44) = W0 at *
  obtain ⟨gh, hgh⟩ : ∃ gh, gh = w.heap.size + 1 := ⟨_, rfl⟩
  rw [← hgh] at ht0 ⊢
  have HGH := Lib.hid hgh; have HT0 := Lib.hid ht0; have HB0 := Lib.hid hb0
  clear hgh ht0 hb0
  go_loopg [14] n (fun q vi wr => ∃ (k : Nat) (hs : List Rn), q = n - k ∧ k ≤ n ∧ vi = .int .i64 k ∧ hs.Perm (runsOf 0 (ls.take k)) ∧ (∀ x ∈ ls.take k, inO (recs x) = true) ∧ HT wr w.heap.size gh hs ∧ Below w.heap.size w wr)
  case atStart => exact ⟨0, [], rfl, Nat.zero_le _, rfl, List.Perm.refl _, by simp, HT0.out, HB0.out⟩
  case round =>
    obtain ⟨k, hs, hq, hk, rfl, hp, hio, hht, hb⟩ := hrel
    have HQ := Lib.hid hq; have HP := Lib.hid hp; have HIO := Lib.hid hio; have HHT := Lib.hid hht; have HB := Lib.hid hb
    clear hq hp hio hht hb HT0 HB0
    by_cases hlt : k < n
    · have hkl : k < ls.length := by rw [HN.out]; exact hlt
      obtain ⟨b, off, A', n', c', rfl, e1, e2, hc, hrow, hlen⟩ := H.out.at_ HB.out hkl
      have i1 : (0 : Int) ≤ (k : Int) := by omega
      have i2 : (k : Int) < (n : Int) := by omega
      have HTK : Hid (ls.take (k + 1) = ls.take k ++ [ls[k]]) := List.take_succ_eq_append_getElem hkl
      have HHL : Hid (hs.length ≤ k) := Lib.hid (by rw [HP.out.length_eq]; refine Nat.le_trans (runsOf_len _ _) ?_; rw [List.length_take]; exact Nat.min_le_left _ _)
      have HXM : Hid (ls[k] ∈ ls) := Lib.hid (List.getElem_mem hkl)
      have HLK : Hid ((ls.take k).length = k) := Lib.hid (by rw [List.length_take]; omega)
      generalize ls[k] = x at *
      obtain ⟨lv, els⟩ := x
      dsimp only at e1 e2 hrow hlen
      subst e1
      have HE := Lib.hid e2; have HROW := Lib.hid hrow; have HLEN := Lib.hid hlen
      clear e2 hrow hlen
      have hin := inOrder_any (.slice A' n' c') els wr HROW.out HLEN.out
      by_cases hio : inO (els.map El.r) = true
      · rw [hio] at hin
        have HIN := Lib.hid hin; have HIO2 := Lib.hid hio
        clear hin hio
        by_cases h0 : n' = 0
        · subst h0
          have hnil : els = [] := List.eq_nil_of_length_eq_zero HE.out
          subst hnil
          go_wp2_with fail
          refine HIN.out.mono ?_; rintro e w1 ⟨rfl, hw1⟩
          have HHT1 := Lib.hid (HHT.out.below hw1)
          have HB1 := Lib.hid (HB.out.trans (hw1.mono HB.out.size))
          clear hw1 hc
          go_wp2_with fail
          go_roundg (n - (k + 1))
          case measure => have := HQ.out; omega
          case rel => exact ⟨k + 1, hs, rfl, by omega, by go_num, by rw [HTK.out, runsOf_snoc, runOf_nil rfl, List.append_nil]; exact HP.out, by
            intro x hx
            rw [HTK.out, List.mem_append, List.mem_singleton] at hx
            rcases hx with hx | hx
            · exact HIO.out x hx
            · rw [hx]; exact HIO2.out, HHT1.out, HB1.out⟩
        · have hn0 : (0 : Int) < (n' : Int) := by omega
          have hne : els ≠ [] := fun e => by have := HE.out; rw [e] at this; simp at this; omega
          have HNE := Lib.hid hne
          clear hne
          go_wp2_with fail
          refine HIN.out.mono ?_; rintro e w1 ⟨rfl, hw1⟩
          have HHT1 := Lib.hid (HHT.out.below hw1)
          have HB1 := Lib.hid (HB.out.trans (hw1.mono HB.out.size))
          have HPU := Lib.hid (hpush_any w.heap.size gh hs ⟨.slice A' n' c', els, k⟩ w1 HHT1.out ((H.out.2.2 _ HXM.out).1.runs (B := 0) (fun p hp => HB1.out.cell hp) HNE.out HLEN.out (by omega)) (by have := HHL.out; omega))
          clear hw1 hc
          go_wp2_with fail
          refine HPU.out.mono ?_
          rintro e w2 ⟨⟨x, rfl⟩, ⟨ks, k1, k2⟩, k3⟩
          have K1 := Lib.hid k1; have K2 := Lib.hid k2; have HB2 := Lib.hid (HB1.out.trans k3)
          clear k1 k2 k3 HPU
          go_wp2_with fail
          go_roundg (n - (k + 1))
          case measure => have := HQ.out; omega
          case rel => exact ⟨k + 1, ks, rfl, by omega, by go_num, by
              rw [HTK.out, runsOf_snoc, runOf_one HNE.out, HLK.out, Nat.zero_add]
              exact K1.out.trans (HP.out.append_right _), by
            intro x hx
            rw [HTK.out, List.mem_append, List.mem_singleton] at hx
            rcases hx with hx | hx
            · exact HIO.out x hx
            · rw [hx]; exact HIO2.out, K2.out, HB2.out⟩
      · have hio' : inO (els.map El.r) = false := by simpa using hio
        rw [hio'] at hin
        have HIN := Lib.hid hin; have HIO2 := Lib.hid hio'
        clear hin hio hio'
        go_wp2_with fail
        refine HIN.out.mono ?_; rintro e w1 ⟨rfl, hw1⟩
        have HB1 := Lib.hid (HB.out.trans (hw1.mono HB.out.size))
        clear hw1 hc
        go_wp2_with fail
        go_ret2
        refine ⟨?_, HB1.out⟩
        rw [if_neg (fun h => by have := h _ HXM.out; rw [show recs _ = els.map El.r from rfl, HIO2.out] at this; exact Bool.noConfusion this)]
        rfl
    · have hkn : k = n := by omega
      subst hkn
      have HP2 : Hid (hs.Perm (runsOf 0 ls)) := Lib.hid (by have := HP.out; rwa [List.take_of_length_le (by rw [HN.out]; exact Nat.le_refl _)] at this)
      have HIO2 : Hid (∀ x ∈ ls, inO (recs x) = true) := Lib.hid (by have := HIO.out; rwa [List.take_of_length_le (by rw [HN.out]; exact Nat.le_refl _)] at this)
      clear HP HIO
      go_wp2_with fail
      have hml : many hs ≤ 1000000000 := by rw [many_perm HP2.out, many_runs]; exact HTOT.out
      have HFT := Lib.hid ((Fits.start ls).perm HP2.out)
      have HLE := Lib.hid (runs_len HP2.out fun x hx => (H.out.2.2 x hx).2.2)
      have HHN : Hid (hs.length ≤ 1000000) := Lib.hid (by rw [HP2.out.length_eq]; have := runsOf_len ls 0; have := HN.out; omega)
      have HML := Lib.hid hml
      have HSL : Hid (∀ p, Srt ord2 ((LL ls)[p]?.getD [])) := Lib.hid (fun p => by
        rw [LL_at]
        cases e : ls[p]? with
        | none => exact List.Pairwise.nil
        | some x => exact inO_srt (HIO2.out x (List.mem_of_getElem? e)))
      clear hml
      go_loopg [7] (many hs) (fun q vo wx => ∃ (ks : List Rn) (d rem : Nat → List Rc) (qs : List El), q = many ks ∧ HT wx w.heap.size gh ks ∧ Fits rem ks ∧ MI ord2 (fun p => (LL ls)[p]?.getD []) d rem (qs.map El.r) ∧ OutAt wx w.heap.size vo qs ∧ (∀ r ∈ ks, ∀ q ∈ r.els, LenR q) ∧ (∀ q ∈ qs, LenR q) ∧ ks.length ≤ 1000000 ∧ qs.length + many ks ≤ 1000000000 ∧ Below w.heap.size w wx)
      case atStart => exact ⟨hs, fun _ => [], _, [], rfl, HHT.out, HFT.out, MI.start _, OutAt.nil _ _, HLE.out, by simp, HHN.out, by simpa using HML.out, HB.out⟩
      case round =>
        obtain ⟨ks, d, rem, qs, hq, hht, hfit, hmi, hout, hl1, hl2, hkn, htot, hb⟩ := hrel
        clear HHT HFT HLE HHN HML HB
        have HQ := Lib.hid hq; have HHT := Lib.hid hht; have HFT := Lib.hid hfit; have HMI := Lib.hid hmi; have HO := Lib.hid hout; have HL1 := Lib.hid hl1; have LQS := Lib.hid hl2; have HB := Lib.hid hb
        have HKN := Lib.hid hkn
        obtain ⟨Ao, co, rfl⟩ := hout.row.form
        clear hq hht hfit hmi hout hl1 hl2 hb
        cases ks with
        | nil =>
          obtain ⟨v, h1, h2, h3⟩ := HHT.out.ex
          obtain ⟨Ah, ch, rfl, _⟩ := own_form h2
          have hcell : wr.cell? ⟨gh, 0, none⟩ = some (.slice Ah 0 ch) := h1.at_.1
          have HE : Hid (IsMerge ord2 (LL ls) (qs.map El.r)) := Lib.hid (HMI.out.done fun p => by
            cases e : rem p with
            | nil => rfl
            | cons y ys => obtain ⟨r, hr, _⟩ := HFT.out.all p (by rw [e]; simp); simp at hr)
          clear h1 h2 h3
          go_wp2_with fail
          refine (len_any _ _ _ _ rfl _).mono ?_; rintro e w' ⟨rfl, rfl⟩
          go_wp2_with fail
          go_ret2
          exact ⟨by rw [if_pos HIO2.out]; exact ⟨_, qs, rfl, HO.out.row, HE.out, LQS.out⟩, HB.out⟩
        | cons r rs =>
          obtain ⟨v, h1, h2, h3⟩ := HHT.out.ex
          obtain ⟨g, cc, rfl, hs1⟩ := hs_of h1 h2 h3 (by simp) HHT.out.hB HHT.out.rn hkn
          have HS0 := Lib.hid hs1
          have HHP := Lib.hid HHT.out.hp
          clear h1 h2 h3 hs1
          obtain ⟨lv, els, pl⟩ := r
          obtain ⟨q, es, rfl⟩ : ∃ q es, els = q :: es := by
            cases els with
            | nil => exact absurd rfl (HFT.out.ne _ List.mem_cons_self)
            | cons q es => exact ⟨q, es, rfl⟩
          have LQ := Lib.hid (HL1.out _ List.mem_cons_self q List.mem_cons_self)
          have hrb := HS0.out.rn _ List.mem_cons_self
          have hra : RowB wr lv (q :: es) := (hrb.at_ HB.out.size).1
          have HRB := Lib.hid hrb
          obtain ⟨A1, c1, rfl⟩ := hra.form
          obtain ⟨b, off, rfl, hbs, r0, r1, r2, r3⟩ := hra.at_ (k := 0) (by simp)
          simp only [Nat.zero_mul, Nat.add_zero, List.getElem_cons_zero] at r0 r1 r2 r3
          have hbb := hra.bs; clear hra
          obtain ⟨⟨Ak, ck, ek, hk⟩, ⟨Av, cv, ev, hv⟩⟩ := hbb q List.mem_cons_self
          rw [ek] at r0; rw [ev] at r3
          have KB : Hid (Bs wr wr.heap.size (.slice Ak q.r.key.length ck) q.r.key) := Lib.hid ⟨Ak, ck, rfl, hk⟩
          have VB : Hid (Bs wr wr.heap.size (.slice Av q.r.val.length cv) q.r.val) := Lib.hid ⟨Av, cv, rfl, hv⟩
          clear ek ev hk hv hbb hrb
          obtain ⟨M, hM⟩ : ∃ M, es.length = M := ⟨_, rfl⟩
          have hcl := HS0.out.at_.cell (k := 0) (by simp)
          simp only [List.append_nil, List.getElem_cons_zero, Nat.zero_mul, Nat.zero_add, List.length_cons] at hcl
          obtain ⟨g0, g1⟩ := hcl
          have hdc := HS0.out.hd
          simp only [List.length_cons, List.length_nil, Nat.add_zero] at hdc
          rw [hM] at g0
          have HM := Lib.hid hM
          obtain ⟨kl, hkl⟩ : ∃ kl, q.r.key.length = kl := ⟨_, rfl⟩
          obtain ⟨vl, hvl⟩ : ∃ vl, q.r.val.length = vl := ⟨_, rfl⟩
          rw [hkl] at r0 KB; rw [hvl] at r3 VB
          have HKL := Lib.hid hkl; have HVL := Lib.hid hvl
          clear hM hkl hvl hkn
          go_wp2_with fail
          refine (len_any _ _ _ _ rfl _).mono ?_; rintro e w' ⟨rfl, rfl⟩
          have j0 : (0 : Int) < ((rs.length + 1 : Nat) : Int) := by omega
          have j1 : (0 : Int) < ((M + 1 : Nat) : Int) := by omega
          go_upto_region 14 with fail
          have hbox := blk_new wr (.cells #[.slice Ak kl ck, .int .i64 q.r.seq, .bool q.r.del, .slice Av vl cv] 40) rfl
          have hbe := bnewH wr (.cells #[.slice Ak kl ck, .int .i64 q.r.seq, .bool q.r.del, .slice Av vl cv] 40)
          have HS1 := Lib.hid (HS0.out.below hbe); have HO1 := Lib.hid (HO.out.below hbe); have HB1 := Lib.hid (HB.out.trans (hbe.mono HB.out.size))
          have KB1 := Lib.hid (KB.out.up hbe); have VB1 := Lib.hid (VB.out.up hbe)
          obtain ⟨bx, hbx⟩ : ∃ bx, bx = wr.heap.size := ⟨_, rfl⟩
          rw [← hbx] at hbox ⊢
          generalize wr.alloc (.cells #[.slice Ak kl ck, .int .i64 q.r.seq, .bool q.r.del, .slice Av vl cv] 40) = w1 at *
          clear hbe hbx HHT KB VB HO HB HS0 g0 g1 hdc r0 r1 r2 r3 hbs j0 j1
          obtain ⟨NO, hNO⟩ : ∃ NO, qs.length = NO := ⟨_, rfl⟩
          have HNO := Lib.hid hNO
          rw [hNO] at HO1 htot ⊢
          obtain ⟨nw, hnw⟩ : ∃ nw, isNew (qs.map El.r) q.r = nw := ⟨_, rfl⟩
          have HNW := Lib.hid hnw
          clear hnw
          go_cut [61] from 48 to 61 (fun v61 wz => v61 = .bool nw ∧ Below w1.heap.size w1 wz)
          case first =>
            obtain ⟨x0, x1, x2, x3, x4⟩ := cells4 hbox
            have hbx := blk_lt hbox
            rcases List.eq_nil_or_concat qs with hq0 | ⟨ps, z, hqs⟩
            · have hn := HNW.out
              rw [hq0] at hn hNO
              obtain rfl : 0 = NO := hNO
              obtain rfl : true = nw := hn
              clear hq0 hbox hn
              go_quiet (fail)
              go_wp2_with fail
              go_meet
              exact ⟨rfl, below_drewN (Below.refl _ _) _⟩
            · have hqs' : qs = ps ++ [z] := by rw [hqs, List.concat_eq_append]
              obtain ⟨P, hP⟩ : ∃ P, ps.length = P := ⟨_, rfl⟩
              have hNP : P + 1 = NO := by rw [← hNO, hqs']; simp [hP]
              subst hNP
              have hrow := HO1.out.row
              have hPl : P < qs.length := by omega
              have hz : qs[P] = z := by simp [hqs', ← hP]
              obtain ⟨bo, oo, rfl, hbo, r0, r1, r2, r3⟩ := hrow.at_ (k := P) hPl
              have hrec := hrow.rec (k := P) hPl
              rw [hz] at r0 r1 r2 r3 hrec
              have hbb := hrow.bs; clear hrow
              obtain ⟨⟨Az, cz, ez, _⟩, ⟨Az', cz', ez', _⟩⟩ := hbb z (by rw [hqs']; simp)
              rw [ez] at r0 hrec; rw [ez'] at r3 hrec
              have HI1 := Lib.hid hrec
              have HI2 : Hid (IsRc w1 w1.heap.size (.agg #[.slice Ak kl ck, .int .i64 q.r.seq, .bool q.r.del, .slice Av vl cv]) q.r) := Lib.hid ⟨_, _, rfl, KB1.out, VB1.out⟩
              have hor := fun wx h1 h2 => order_m z.r q.r (.agg #[.slice Az z.r.key.length cz, .int .i64 z.r.seq, .bool z.r.del, .slice Az' z.r.val.length cz']) (.agg #[.slice Ak kl ck, .int .i64 q.r.seq, .bool q.r.del, .slice Av vl cv]) wx h1 h2
              have hn := HNW.out
              rw [hqs', List.map_append, List.map_singleton, isNew_snoc] at hn
              obtain ⟨o, ho⟩ : ∃ o, ord2 z.r q.r = o := ⟨_, rfl⟩
              rw [ho] at hor hn
              have HOR := Lib.hid hor
              obtain ⟨zk, hzk⟩ : ∃ m, z.r.key.length = m := ⟨_, rfl⟩
              obtain ⟨zv, hzv⟩ : ∃ m, z.r.val.length = m := ⟨_, rfl⟩
              rw [hzk] at r0 HI1 HOR; rw [hzv] at r3 HI1 HOR
              have jj : IntKind.i64.wrap ((P : Int) + 1 - 1) = (P : Int) := by rw [IntWalk.i64_in _ (by omega)]; omega
              have j2 : (0 : Int) ≤ (P : Int) := by omega
              have j3 : (P : Int) < (P : Int) + 1 := by omega
              have jk : IntKind.i64.wrap (P : Int) = (P : Int) := IntWalk.i64_in _ (by omega)
              have j4 : (P : Int) < ((P + 1 : Nat) : Int) := by omega
              have hg0 : ¬ ((P : Int) + 1 = 0) := by omega
              have hg1 : decide ((P : Int) + 1 = 0) = false := decide_eq_false hg0
              have hg2 : decide (((P + 1 : Nat) : Int) = 0) = false := decide_eq_false (by omega)
              have HNWO := Lib.hid hn
              have hb0 : ((P : Int) + 1 == 0) = false := by simp; omega
              clear hor ho hzk hzv hrec hbb ez ez' hqs hqs' hz hPl hNO hbox hn
              go_region_held3 (fun w' => w'.cell? ⟨bo, oo + P * 4, none⟩ = some (.slice Az zk cz) ∧ w'.cell? ⟨bo, oo + P * 4 + 1, none⟩ = some (.int .i64 z.r.seq) ∧ w'.cell? ⟨bo, oo + P * 4 + 2, none⟩ = some (.bool z.r.del) ∧ w'.cell? ⟨bo, oo + P * 4 + 3, none⟩ = some (.slice Az' zv cz') ∧ w'.cell? ⟨bx, 0, none⟩ = some (.slice Ak kl ck) ∧ w'.cell? ⟨bx, 1, none⟩ = some (.int .i64 q.r.seq) ∧ w'.cell? ⟨bx, 2, none⟩ = some (.bool q.r.del) ∧ w'.cell? ⟨bx, 3, none⟩ = some (.slice Av vl cv))
                ((first | (with_reducible exact ⟨r0, r1, r2, r3, x0, x1, x2, x3⟩) | exact ⟨r0, r1, r2, r3, x0, x1, x2, x3⟩ | exact ⟨(hcB _ hbo).trans r0, (hcB _ hbo).trans r1, (hcB _ hbo).trans r2, (hcB _ hbo).trans r3, (hcB _ hbx).trans x0, (hcB _ hbx).trans x1, (hcB _ hbx).trans x2, (hcB _ hbx).trans x3⟩))
                ((first
                  | (go_at_call 23; refine (HOR.out w1.drew HI1.out HI2.out).mono ?_; rintro e w2 ⟨rfl, hw2⟩; have HW2 : Hid (Below w1.heap.size w1 w2) := Lib.hid ((Below.refl _ _).drew.trans hw2); have hcB := fun (p : Addr) (hp : p.block < w1.heap.size) => HW2.out.cell hp; clear hw2)))
              all_goals go_wp2_with fail
              all_goals go_meet
              all_goals exact ⟨by rw [← HNWO.out]; by_cases h : o = 0 <;> simp [h, hb0], HW2.out⟩
          case rest =>
            obtain ⟨rfl, hbz⟩ := hcut
            have HSY := Lib.hid (HS1.out.below hbz); have HOY := Lib.hid (HO1.out.below hbz); have HBY := Lib.hid (HB1.out.trans (hbz.mono HB1.out.size))
            have KBY := Lib.hid (KB1.out.up hbz); have VBY := Lib.hid (VB1.out.up hbz)
            have hboxc := blk_below hbox hbz (blk_lt hbox)
            clear HS1 HO1 HB1 KB1 VB1 hbox hbz hNO
            go_upto_if 61 with fail
            go_cut [7] from 62 to 66 (fun v7 wz => ∃ qs' : List El, OutAt wz w.heap.size v7 qs' ∧ qs'.map El.r = took ord2 (qs.map El.r) q.r ∧ (∀ z ∈ qs', LenR z) ∧ qs'.length ≤ NO + 1 ∧ HS wz w.heap.size gh g cc cc (⟨.slice (some ⟨b, off, none⟩) (es.length + 1) c1, q :: es, pl⟩ :: rs) [] ∧ Below w.heap.size w wz)
            case first =>
              cases nw with
              | true =>
                have HTK := Lib.hid (took_isNew HNW.out)
                obtain ⟨x0, x1, x2, x3, x4⟩ := cells4 hboxc
                clear hboxc
                go_wp2_with fail
                refine (copied_any (.slice Ak kl ck) (.slice Av vl cv) q.r wc KBY.out VBY.out LQ.out.1 LQ.out.2).mono ?_
                rintro e w3 ⟨A3, c3, A4, c4, rfl, hm1, hm2, hw3⟩
                have HO3 := Lib.hid (HOY.out.below hw3); have HS3 := Lib.hid (HSY.out.below hw3); have HB3 := Lib.hid (HBY.out.trans (hw3.mono HBY.out.size))
                have HM := Lib.hid (And.intro hm1 hm2)
                have s3 : w.heap.size ≤ w3.heap.size := HB3.out.size
                have s13 : w.heap.size ≤ wc.heap.size := HBY.out.size
                clear hm1 hm2 hw3
                go_wp2_with (at_builtin; refine wpList_app rfl (.tmp 62) (.tmp 65) _ rfl w.heap.size 40 i0 _ 4 64 Try.underlying25 hi'.out hz0 hz1 hz2 rfl (by omega) _ _ _ rfl (World.ownsRow.alloc (w := w3) HO3.out.own _) _ (some ⟨w3.heap.size, 0, none⟩) 1 1 _ rfl (Rd.fresh w3 #[.slice A3 q.r.key.length c3, .int .i64 q.r.seq, .bool q.r.del, .slice A4 q.r.val.length c4] 40 1 4 rfl) rec_one (by have := HNO.out; unfold maxLen; omega) (by have := HNO.out; omega) (by simp; omega) ?_; intro v4 w4 hO hgr hat
                             have hoa := HO3.out.below (bnewH w3 (.cells #[.slice A3 q.r.key.length c3, .int .i64 q.r.seq, .bool q.r.del, .slice A4 q.r.val.length c4] 40))
                             have hsa := HS3.out.below (bnewH w3 (.cells #[.slice A3 q.r.key.length c3, .int .i64 q.r.seq, .bool q.r.del, .slice A4 q.r.val.length c4] 40))
                             have hma : Mine w.heap.size (w3.alloc (.cells #[.slice A3 q.r.key.length c3, .int .i64 q.r.seq, .bool q.r.del, .slice A4 q.r.val.length c4] 40)) (.slice A3 q.r.key.length c3) q.r.key ∧ Mine w.heap.size (w3.alloc (.cells #[.slice A3 q.r.key.length c3, .int .i64 q.r.seq, .bool q.r.del, .slice A4 q.r.val.length c4] 40)) (.slice A4 q.r.val.length c4) q.r.val :=
                               ⟨HM.out.1.move s13 (by simp) (fun b hb => Below.heap_alloc _ _ _ hb.2), HM.out.2.move s13 (by simp) (fun b hb => Below.heap_alloc _ _ _ hb.2)⟩
                             have HO4 := Lib.hid (OutAt.app (q := ⟨.slice A3 q.r.key.length c3, .slice A4 q.r.val.length c4, q.r⟩) hoa hma hO hgr)
                             have HS4 := Lib.hid (hsa.app hoa.own hgr)
                             have HB4 := Lib.hid (own_app_below (HB3.out.alloc s3 _) (by simp; omega) hoa.own hgr)
                             clear hO hgr hat hoa hsa hma)
                go_meet
                exact ⟨qs ++ [⟨.slice A3 q.r.key.length c3, .slice A4 q.r.val.length c4, q.r⟩], HO4.out, by rw [List.map_append]; exact HTK.out.symm, fun z hz => by
                  rcases List.mem_append.1 hz with hz | hz
                  · exact LQS.out z hz
                  · rw [List.mem_singleton.1 hz]; exact LQ.out, by rw [List.length_append, HNO.out]; exact Nat.le_refl _, HS4.out, HB4.out⟩
              | false =>
                go_wp2_with fail
                go_meet
                exact ⟨qs, HOY.out, (took_notNew HNW.out).symm, LQS.out, by rw [HNO.out]; omega, HSY.out, HBY.out⟩
            case rest =>
              obtain ⟨qs', ho', htk, hlq', hln', hs', hb'⟩ := hcut
              clear HSY HOY HBY KBY VBY hboxc
              obtain ⟨Ap, cp, rfl⟩ := ho'.row.form
              have hcl := hs'.at_.cell (k := 0) (by simp)
              simp only [List.append_nil, List.getElem_cons_zero, Nat.zero_mul, Nat.zero_add, List.length_cons] at hcl
              obtain ⟨g0, g1⟩ := hcl
              have hf := fun i => hs'.at_.free i
              have hgl := hs'.lt
              have HO2 := Lib.hid ho'; have HTK := Lib.hid htk; have LQ2 := Lib.hid hlq'; have HS2 := Lib.hid hs'; have HB2 := Lib.hid hb'
              rw [HM.out] at g0
              clear ho' htk hlq' hs' hb' g1
              have HTM := Lib.hid htot
              rcases es with _ | ⟨q2, es2⟩
              · obtain rfl : 0 = M := HM.out
                by_cases hc1 : c1 = 1
                · subst hc1
                  have HPP := Lib.hid (hpop_any w.heap.size gh g cc ⟨.slice (some ⟨b, off, none⟩) 1 1, [q], pl⟩ ⟨.slice (some ⟨b, off, none⟩) 0 0, [], pl⟩ rs (wc.setCell ⟨g, 0, none⟩ (.slice (some ⟨b, off, none⟩) 0 0)) (blk_far HS2.out.hb (by exact HS2.out.ne) _) (HAt.set0 (by simpa using HS2.out.at_)) HS2.out.ne HS2.out.gB HS2.out.hB
                    (fun z hz => (HS2.out.rn z (List.mem_cons_of_mem _ hz)).keep fun p hp => World.cell?_of_block (Below.heap_setCell wc ⟨g, 0, none⟩ _ p.block (by show p.block ≠ g; have := HS2.out.gB; omega))) ⟨_, _, _, rfl⟩ (by have := HS2.out.nm; simpa using this) HHP.out)
                  go_wp2_with fail
                  refine HPP.out.mono ?_
                  rintro e w2 ⟨⟨x, rfl⟩, ⟨ks, k1, k2, k3⟩, k4⟩
                  have K1 := Lib.hid k1; have K2 := Lib.hid k2; have K3 := Lib.hid k3
                  have HG := Lib.hid ((Gr2.setCell wc (x := gh) (y := g) ⟨g, 0, none⟩ (.inr rfl) (.slice (some ⟨b, off, none⟩) 0 0)).trans k4)
                  clear k1 k2 k3 k4 HPP
                  go_wp2_with fail
                  go_roundg (many ks)
                  case measure => have h1 := HQ.out; have h2 := many_perm K1.out; rw [h1, h2, many_cons]; simp
                  case rel =>
                    have hmp : rem pl = q.r :: [] := HFT.out.at_ _ List.mem_cons_self
                    refine ⟨ks, upd d pl (d pl ++ [q.r]), upd rem pl [], qs', rfl, HS.ht (cap := 0) K3.out (by rw [K1.out.length_eq]; exact K2.out), (HFT.out.gone).perm K1.out, ?_, HO2.out.gr2 HG.out HS2.out.hdr HS2.out.at_, fun z hz => HL1.out z (List.mem_cons_of_mem _ (K1.out.mem_iff.1 hz)), LQ2.out, by rw [K1.out.length_eq]; have := HKN.out; simp at this; omega, ?_, HB2.out.trans (HG.out.below HS2.out.hB HS2.out.gB (by have := HS2.out.lt; have := HS2.out.gB; omega))⟩
                    · rw [HTK.out]
                      exact HMI.out.step toOrd HSL.out hmp (top_min HFT.out HHP.out)
                    · have h2 := many_perm K1.out; have h3 := HTM.out; rw [many_cons] at h3; simp at h3; omega
                · have HPP := Lib.hid (hpop_any w.heap.size gh g cc ⟨.slice (some ⟨b, off, none⟩) 1 c1, [q], pl⟩ ⟨.slice (some ⟨b, off + 4, none⟩) 0 (c1 - 1), [], pl⟩ rs (wc.setCell ⟨g, 0, none⟩ (.slice (some ⟨b, off + 4, none⟩) 0 (c1 - 1))) (blk_far HS2.out.hb (by exact HS2.out.ne) _) (HAt.set0 (by simpa using HS2.out.at_)) HS2.out.ne HS2.out.gB HS2.out.hB
                    (fun z hz => (HS2.out.rn z (List.mem_cons_of_mem _ hz)).keep fun p hp => World.cell?_of_block (Below.heap_setCell wc ⟨g, 0, none⟩ _ p.block (by show p.block ≠ g; have := HS2.out.gB; omega))) ⟨_, _, _, rfl⟩ (by have := HS2.out.nm; simpa using this) HHP.out)
                  go_wp2_with fail
                  refine HPP.out.mono ?_
                  rintro e w2 ⟨⟨x, rfl⟩, ⟨ks, k1, k2, k3⟩, k4⟩
                  have K1 := Lib.hid k1; have K2 := Lib.hid k2; have K3 := Lib.hid k3
                  have HG := Lib.hid ((Gr2.setCell wc (x := gh) (y := g) ⟨g, 0, none⟩ (.inr rfl) (.slice (some ⟨b, off + 4, none⟩) 0 (c1 - 1))).trans k4)
                  clear k1 k2 k3 k4 HPP
                  go_wp2_with fail
                  go_roundg (many ks)
                  case measure => have h1 := HQ.out; have h2 := many_perm K1.out; rw [h1, h2, many_cons]; simp
                  case rel =>
                    have hmp : rem pl = q.r :: [] := HFT.out.at_ _ List.mem_cons_self
                    refine ⟨ks, upd d pl (d pl ++ [q.r]), upd rem pl [], qs', rfl, HS.ht (cap := 0) K3.out (by rw [K1.out.length_eq]; exact K2.out), (HFT.out.gone).perm K1.out, ?_, HO2.out.gr2 HG.out HS2.out.hdr HS2.out.at_, fun z hz => HL1.out z (List.mem_cons_of_mem _ (K1.out.mem_iff.1 hz)), LQ2.out, by rw [K1.out.length_eq]; have := HKN.out; simp at this; omega, ?_, HB2.out.trans (HG.out.below HS2.out.hB HS2.out.gB (by have := HS2.out.lt; have := HS2.out.gB; omega))⟩
                    · rw [HTK.out]
                      exact HMI.out.step toOrd HSL.out hmp (top_min HFT.out HHP.out)
                    · have h2 := many_perm K1.out; have h3 := HTM.out; rw [many_cons] at h3; simp at h3; omega
              · obtain ⟨M2, rfl⟩ : ∃ M2, M = M2 + 1 := ⟨es2.length, HM.out.symm⟩
                have HRD := Lib.hid (RnB.drop (HS2.out.rn _ List.mem_cons_self) (by simp))
                have hcne : ¬ c1 = 1 := by
                  obtain ⟨⟨_, _, e, h2, _⟩, _⟩ := HS2.out.rn _ List.mem_cons_self
                  injection e with _ _ e; simp at h2; omega
                have HPD := Lib.hid (HHP.out.first (g := fn (⟨.slice (some ⟨b, off + 4, none⟩) (es2.length + 1) (c1 - 1), q2 :: es2, pl⟩ :: rs)) (m := rs.length + 1) (Nat.le_refl _) (fun k h1 h2 => by obtain ⟨j, rfl⟩ : ∃ j, k = j + 1 := ⟨k - 1, by omega⟩; rfl))
                have HE2 : Hid (es2.length = M2) := Lib.hid (by have := HM.out; simpa using this)
                have HFX := Lib.hid (hfix_any w.heap.size gh g cc (⟨.slice (some ⟨b, off + 4, none⟩) (es2.length + 1) (c1 - 1), q2 :: es2, pl⟩ :: rs) (wc.setCell ⟨g, 0, none⟩ (.slice (some ⟨b, off + 4, none⟩) (es2.length + 1) (c1 - 1)))
                  ⟨blk_far HS2.out.hb (by exact HS2.out.ne) _, by have := HAt.set0 (lv' := .slice (some ⟨b, off + 4, none⟩) (es2.length + 1) (c1 - 1)) (els' := q2 :: es2) (by simpa using HS2.out.at_); simpa using this, HS2.out.ne, HS2.out.gB, HS2.out.hB,
                    fun z hz => by
                      have hkp : ∀ p : Addr, p.block < w.heap.size → (wc.setCell ⟨g, 0, none⟩ (.slice (some ⟨b, off + 4, none⟩) (es2.length + 1) (c1 - 1))).cell? p = wc.cell? p := fun p hp => World.cell?_of_block (Below.heap_setCell wc ⟨g, 0, none⟩ _ p.block (by show p.block ≠ g; have := HS2.out.gB; omega))
                      rcases List.mem_cons.1 hz with e | hz
                      · subst e; exact HRD.out.keep hkp
                      · exact (HS2.out.rn z (List.mem_cons_of_mem _ hz)).keep hkp, by have := HS2.out.nm; simpa using this⟩ HPD.out (by simp))
                rw [HE2.out] at HFX
                go_wp2_with fail
                refine HFX.out.mono ?_
                rintro e w2 ⟨⟨x, rfl⟩, ⟨ks, k1, k2, k3⟩, k4⟩
                have K1 := Lib.hid k1; have K2 := Lib.hid k2; have K3 := Lib.hid k3
                have HG := Lib.hid ((Gr2.setCell wc (x := gh) (y := g) ⟨g, 0, none⟩ (.inr rfl) (.slice (some ⟨b, off + 4, none⟩) (M2 + 1) (c1 - 1))).trans (Gr2.of_grown (x := gh) k4))
                clear k1 k2 k3 k4 HFX
                go_wp2_with fail
                go_roundg (many ks)
                case measure => have h1 := HQ.out; have h2 := many_perm K1.out; rw [h1, h2, many_cons, many_cons]; simp
                case rel =>
                  have hmp : rem pl = q.r :: ((q2 :: es2).map El.r) := HFT.out.at_ _ List.mem_cons_self
                  refine ⟨ks, upd d pl (d pl ++ [q.r]), upd rem pl ((q2 :: es2).map El.r), qs', rfl, HS.ht (cap := 0) K3.out (by rw [K1.out.length_eq]; exact K2.out), (HFT.out.less (by simp)).perm K1.out, ?_, HO2.out.gr2 HG.out HS2.out.hdr HS2.out.at_, fun z hz => ?_, LQ2.out, by rw [K1.out.length_eq]; exact HKN.out, ?_, HB2.out.trans (HG.out.below HS2.out.hB HS2.out.gB (by have := HS2.out.lt; have := HS2.out.gB; omega))⟩
                  · rw [HTK.out]
                    exact HMI.out.step toOrd HSL.out hmp (top_min HFT.out HHP.out)
                  · rcases List.mem_cons.1 (K1.out.mem_iff.1 hz) with e | hz
                    · subst e; exact fun y hy => HL1.out _ List.mem_cons_self y (List.mem_cons_of_mem _ hy)
                    · exact HL1.out z (List.mem_cons_of_mem _ hz)
                  · have h2 := many_perm K1.out; have h3 := HTM.out; rw [many_cons] at h2 h3; simp at h2 h3; omega
end Go.Proofs.Ytfcemlcocdhmfaa
