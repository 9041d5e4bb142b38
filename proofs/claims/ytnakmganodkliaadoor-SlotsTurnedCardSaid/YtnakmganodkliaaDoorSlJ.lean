/- Seats, as plain laws: which cells have one; as many seats as cells of slots. -/
import Derived.Test.YtnakmganodkliaaDoorSlI
set_option linter.unusedVariables false
set_option linter.unusedSimpArgs false
set_option maxRecDepth 100000
namespace Go.Proofs.YtnakmganodkliaaDoorAm
open Go

/-- A step of this direction leaves the cell, or comes to it. -/
def hasF (g : Gr) (c : Int) (d : Bool) : Bool := (stepF g c (dirI d)).2 || (stepF g c (dirI d + 2)).2

theorem chain_at {g : Gr} {y : Int} : ∀ (l : List Int) (k : Nat), Chain g y l → k < l.length → (stepF g (l.getD k 0) y).2 = decide (k + 1 < l.length)
  | [], _, _, h => by simp at h
  | [i], 0, h, _ => by
    have h : (stepF g i y).2 = false := h
    simpa using h
  | [i], k + 1, _, h => by simp at h
  | i :: j :: rest, 0, h, _ => by
    have h : stepF g i y = (j, true) := h.1
    simp [h]
  | i :: j :: rest, k + 1, h, hk => by
    have := chain_at (j :: rest) k h.2 (by simpa using hk)
    simpa using this

theorem slots_begin {g : Gr} {d : Bool} : ∀ (m : Nat) (i num c : Int), i ≤ c → c < i + m → beginsB g c (dirI d) = true → ∃ x ∈ slotsFrom g m i num, x.2.1 = d ∧ x.2.2 = runOn g (dirI d) c
  | 0, _, _, _, _, _, _ => by omega
  | m + 1, i, num, c, h1, h2, hb => by
    simp only [slotsFrom]
    by_cases e : c = i
    · subst e
      cases d
      · have hb0 : beginsB g c 0 = true := hb
        exact ⟨(num + 1, false, runOn g 0 c), List.mem_append_left _ (by rw [if_pos hb0]; simp), rfl, rfl⟩
      · have hb0 : beginsB g c 1 = true := hb
        exact ⟨(num + 1, true, runOn g 1 c), List.mem_append_right _ (List.mem_append_left _ (by rw [if_pos hb0]; simp)), rfl, rfl⟩
    · obtain ⟨x, hx, h⟩ := slots_begin (d := d) m (i + 1) (if beginsB g i 0 || beginsB g i 1 then num + 1 else num) c (by omega) (by omega) hb
      exact ⟨x, List.mem_append_right _ (List.mem_append_right _ hx), h⟩

/-- A step back is a step on. -/
theorem step_inv2 {g : Gr} {i j y : Int} (hy : y = 0 ∨ y = 1) (h : stepF g i (y + 2) = (j, true)) : stepF g j y = (i, true) := by
  have hf := step_facts (g := g) (i := i) (y := y + 2) (by rw [h])
  have h2 := hf.2.2.2.2.2.2
  rw [h] at h2
  obtain ⟨_, _, oj, hb⟩ := step_back hf.1 h2
  rw [stepF, oj]
  rcases hy with rfl | rfl <;> exact hb

theorem run_chain {g : Gr} {y i : Int} (hy : y = 0 ∨ y = 1) (hw : g.h * g.w ≤ 256) (i0 : 0 ≤ i) : Chain g y (runOn g y i) := chain_on hy 256 i (by omega)

theorem has_sits {g : Gr} {d : Bool} (hc : checkF g = 0) : ∀ (n : Nat) (c : Int), c.toNat < n → hasF g c d = true → ∃ s k, Sits (slotsF g) d c s k
  | 0, _, h, _ => by omega
  | n + 1, c, hn, h => by
    have hy := dir_in d
    have hw := hw_in (chk0.1 hc).1 (chk0.1 hc).2.1
    have e : slotsF g = slotsFrom g (g.h * g.w).toNat 0 0 := if_pos hc
    rcases Bool.eq_false_or_eq_true (stepF g c (dirI d + 2)).2 with hb | hb
    · have hf := step_facts hb
      have hp : stepF g c (dirI d + 2) = ((stepF g c (dirI d + 2)).1, true) := Prod.ext rfl hb
      have hlt := hf.2.2.2.2.2.1 (by rcases hy with h | h <;> omega)
      have p0 := (open_in hf.2.1).2.1
      have c0 := (open_in hf.1).2.1
      have hon := step_inv2 hy hp
      obtain ⟨s, k, x, hx, hd, hk, hg⟩ := has_sits (d := d) hc n (stepF g c (dirI d + 2)).1 (by omega) (by unfold hasF; rw [hon]; rfl)
      obtain ⟨⟨i, i0, r, b⟩, _⟩ := slots_runs (g := g) (g.h * g.w).toNat 0 0 (by omega) x (by rw [← e]; exact List.mem_of_getElem? hx)
      rw [hd] at r b
      have ch := run_chain hy hw.2 i0
      rw [← r] at ch
      have h2 := chain_at x.2.2 k ch hk
      rw [hg, hon] at h2
      have h3 : k + 1 < x.2.2.length := of_decide_eq_true h2.symm
      have h4 := run_at (g := g) hy 256 i k (by have h5 := h3; rw [r] at h5; exact h5)
      have h5 : stepF g (x.2.2.getD k 0) (dirI d) = (x.2.2.getD (k + 1) 0, true) := by rw [r]; exact h4
      rw [hg, hon] at h5
      exact ⟨s, k + 1, x, hx, hd, h3, (Prod.mk.inj h5).1.symm⟩
    · have hon : (stepF g c (dirI d)).2 = true := by
        unfold hasF at h
        rw [hb, Bool.or_false] at h
        exact h
      have ho := open_in (step_facts hon).1
      obtain ⟨x, hx, hd, hr⟩ := slots_begin (d := d) (g.h * g.w).toNat 0 0 c ho.2.1 (by omega) (by unfold beginsB; rw [hb, hon]; rfl)
      rw [← e] at hx
      obtain ⟨s, hs⟩ := List.getElem?_of_mem hx
      exact ⟨s, 0, x, hs, hd, by rw [hr]; exact run_pos g _ _, by rw [hr]; rfl⟩

theorem sits_has {g : Gr} {d : Bool} {c : Int} {s k : Nat} (hc : checkF g = 0) (h : Sits (slotsF g) d c s k) : hasF g c d = true := by
  have hy := dir_in d
  have hw := hw_in (chk0.1 hc).1 (chk0.1 hc).2.1
  have e : slotsF g = slotsFrom g (g.h * g.w).toNat 0 0 := if_pos hc
  obtain ⟨x, hx, hd, hk, hg⟩ := h
  obtain ⟨⟨i, i0, r, b⟩, _⟩ := slots_runs (g := g) (g.h * g.w).toNat 0 0 (by omega) x (by rw [← e]; exact List.mem_of_getElem? hx)
  rw [hd] at r b
  unfold beginsB at b
  rw [Bool.and_eq_true, Bool.not_eq_true'] at b
  unfold hasF
  rw [r] at hk hg
  cases k with
  | zero =>
    have : i = c := hg
    rw [← this, b.2]; rfl
  | succ k =>
    have h4 := step_inv hy (run_at (g := g) hy 256 i k hk)
    have h5 : stepF g c (dirI d + 2) = ((runOn g (dirI d) i).getD k 0, true) := by rw [← hg]; exact h4
    rw [h5, Bool.or_true]

/-- What a cell's seat says. -/
structure SeatOk (g : Gr) (d : Bool) (c : Int) (v : Int × Int) : Prop where
  has : decide (0 ≤ v.1) = hasF g c d
  at' : 0 ≤ v.1 → v.1 < (slotsF g).length ∧ ((slotsF g).getD v.1.toNat (Ty.dflt SlT)).2.1 = d ∧ 0 ≤ v.2 ∧ v.2 < (((slotsF g).getD v.1.toNat (Ty.dflt SlT)).2.2.length : Int) ∧ ((slotsF g).getD v.1.toNat (Ty.dflt SlT)).2.2.getD v.2.toNat 0 = c

theorem seat_ok {g : Gr} {d : Bool} {c : Int} {v : Int × Int} (hc : checkF g = 0) (h : IsSeat (slotsF g) d c v) : SeatOk g d c v := by
  by_cases hx : ∃ s k, Sits (slotsF g) d c s k
  · obtain ⟨s, k, hs⟩ := hx
    have hv := h.1 s k hs
    have hh := sits_has hc hs
    obtain ⟨x, hx, hd, hk, hg⟩ := hs
    obtain ⟨hl, hxe⟩ := List.getElem?_eq_some_iff.1 hx
    have e : (slotsF g).getD (s : Int).toNat (Ty.dflt SlT) = x := by
      rw [List.getD_eq_getElem?_getD, show (s : Int).toNat = s by omega, hx]; rfl
    subst hv
    refine ⟨?_, fun _ => ⟨by show (s : Int) < _; omega, by rw [e]; exact hd, by show (0 : Int) ≤ k; omega, by rw [e]; show (k : Int) < _; omega, by rw [e]; exact hg⟩⟩
    rw [hh]
    exact decide_eq_true (show (0 : Int) ≤ s by omega)
  · have hv := h.2 (fun s k hs => hx ⟨s, k, hs⟩)
    subst hv
    refine ⟨?_, fun h => absurd h (by show ¬ (0 : Int) ≤ -1; omega)⟩
    rcases Bool.eq_false_or_eq_true (hasF g c d) with hh | hh
    · exact absurd (has_sits hc (c.toNat + 1) c (by omega) hh) hx
    · rw [hh]; rfl

/-- How many entries tell a seat. -/
def cntP : List (Int × Int) → Int
  | [] => 0
  | a :: A => (if 0 ≤ a.1 then 1 else 0) + cntP A

def sumL : List (Int × Bool × List Int) → Int
  | [] => 0
  | x :: xs => (x.2.2.length : Int) + sumL xs

def seatsN : List (Int × Int) → List (Int × Int) → Int
  | a :: A, e :: E => (if 0 ≤ a.1 then 1 else 0) + (if 0 ≤ e.1 then 1 else 0) + seatsN A E
  | _, _ => 0

theorem seatsN_cnt : ∀ (A E : List (Int × Int)), A.length = E.length → seatsN A E = cntP A + cntP E
  | [], [], _ => rfl
  | a :: A, e :: E, h => by
    simp only [seatsN, cntP]
    rw [seatsN_cnt A E (by simpa using h)]
    omega
  | [], _ :: _, h => by simp at h
  | _ :: _, [], h => by simp at h

theorem cnt_set : ∀ (A : List (Int × Int)) (n : Nat) (v : Int × Int), n < A.length → (A.getD n (-1, 0)).1 < 0 → 0 ≤ v.1 → cntP (A.set n v) = cntP A + 1
  | [], _, _, h, _, _ => by simp at h
  | a :: A, 0, v, _, h, hv => by
    have h : a.1 < 0 := h
    simp only [List.set_cons_zero, cntP]
    rw [if_pos hv, if_neg (by omega)]
    omega
  | a :: A, n + 1, v, hl, h, hv => by
    simp only [List.set_cons_succ, cntP]
    rw [cnt_set A n v (by simpa using hl) (by simpa using h) hv]
    omega

theorem lay_cnt (s : Int) (s0 : 0 ≤ s) : ∀ (cs : List Int) (k : Int) (A : List (Int × Int)), (∀ x ∈ cs, 0 ≤ x ∧ x < (A.length : Int)) → cs.Nodup → (∀ x ∈ cs, (sAt A x).1 < 0) → cntP (layCells s k cs A) = cntP A + cs.length
  | [], _, _, _, _, _ => by simp [layCells]
  | x :: cs, k, A, hr, hn, hu => by
    have h0 := hr x List.mem_cons_self
    have hn' := List.nodup_cons.1 hn
    simp only [layCells]
    rw [lay_cnt s s0 cs (k + 1) _ (fun z hz => by rw [List.length_set]; exact hr z (List.mem_cons_of_mem _ hz)) hn'.2 (fun z hz => by
      have hz0 := hr z (List.mem_cons_of_mem _ hz)
      rw [sAt_set hz0.1 h0.1 h0.2, if_neg (fun e : z = x => hn'.1 (e ▸ hz))]
      exact hu z (List.mem_cons_of_mem _ hz)), cnt_set A x.toNat (s, k) (by omega) (hu x List.mem_cons_self) s0]
    simp only [List.length_cons]
    omega

theorem laySlots_cnt (N : Nat) : ∀ (ss P : List (Int × Bool × List Int)) (A E : List (Int × Int)), A.length = N → E.length = N → (∀ x ∈ ss, ∀ z ∈ x.2.2, 0 ≤ z ∧ z < (N : Int)) →
    (∀ d c s k s' k', Sits (P ++ ss) d c s k → Sits (P ++ ss) d c s' k' → s = s' ∧ k = k') → (∀ c, 0 ≤ c → IsSeat P false c (sAt A c)) → (∀ c, 0 ≤ c → IsSeat P true c (sAt E c)) →
    cntP (laySlots P.length ss A E).1 + cntP (laySlots P.length ss A E).2 = cntP A + cntP E + sumL ss
  | [], P, A, E, _, _, _, _, _, _ => by simp [laySlots, sumL]
  | x :: ss, P, A, E, la, le, hr, hu, h1, h2 => by
    have hx := hr x List.mem_cons_self
    have hu1 : ∀ d c s k s' k', Sits (P ++ [x]) d c s k → Sits (P ++ [x]) d c s' k' → s = s' ∧ k = k' := fun d c s k s' k' a b => hu d c s k s' k' (by rw [List.append_cons]; exact sits_more a) (by rw [List.append_cons]; exact sits_more b)
    have el : ((P ++ [x]).length : Int) = P.length + 1 := by simp
    have hsx : ∀ k, k < x.2.2.length → Sits (P ++ [x]) x.2.1 (x.2.2.getD k 0) P.length k := fun k hk => sits_snoc.2 (.inr ⟨rfl, rfl, hk, rfl⟩)
    have hnd : x.2.2.Nodup := by
      refine List.pairwise_iff_getElem.2 ?_
      intro i j hi hj hij he
      have e : x.2.2.getD i 0 = x.2.2.getD j 0 := by rw [List.getD_eq_getElem?_getD, List.getD_eq_getElem?_getD, List.getElem?_eq_getElem hi, List.getElem?_eq_getElem hj, he]
      have a := hsx i hi
      have b := hsx j hj
      rw [e] at a
      have := (hu1 _ _ _ _ _ _ a b).2
      omega
    have hno : ∀ d (v : Int → Int × Int), x.2.1 = d → (∀ c, 0 ≤ c → IsSeat P d c (v c)) → ∀ z ∈ x.2.2, (v z).1 < 0 := by
      intro d v hd hv z hz
      obtain ⟨n, hn, rfl⟩ := List.mem_iff_getElem.1 hz
      have e : x.2.2.getD n 0 = x.2.2[n] := by rw [List.getD_eq_getElem?_getD, List.getElem?_eq_getElem hn]; rfl
      have hs := hsx n hn
      rw [e, hd] at hs
      have := (hv x.2.2[n] (hx _ hz).1).2 (fun s k hp => by
        have := (hu1 _ _ _ _ _ _ hs (sits_snoc.2 (.inl hp))).1
        obtain ⟨z, hz, _⟩ := hp
        have := (List.getElem?_eq_some_iff.1 hz).1
        omega)
      rw [this]
      show (-1 : Int) < 0
      omega
    rw [List.append_cons] at hu
    simp only [laySlots, sumL]
    rw [← el]
    split
    · rename_i hd
      rw [laySlots_cnt N ss (P ++ [x]) A _ la (by rw [lay_len]; exact le) (fun z hz => hr z (List.mem_cons_of_mem _ hz)) hu (fun c c0 => seat_other (by rw [hd]; simp) (h1 c c0)) (fun c c0 => seat_lay c0 (by rw [le]; exact hx) hd (fun s k s' k' a b => hu1 true c s k s' k' a b) (h2 c c0)),
        lay_cnt P.length (by omega) x.2.2 0 E (by rw [le]; exact hx) hnd (hno true (sAt E) hd h2)]
      omega
    · rename_i hd
      have hd' : x.2.1 = false := by simpa using hd
      rw [laySlots_cnt N ss (P ++ [x]) _ E (by rw [lay_len]; exact la) le (fun z hz => hr z (List.mem_cons_of_mem _ hz)) hu (fun c c0 => seat_lay c0 (by rw [la]; exact hx) hd' (fun s k s' k' a b => hu1 false c s k s' k' a b) (h1 c c0)) (fun c c0 => seat_other (by rw [hd']; simp) (h2 c c0)),
        lay_cnt P.length (by omega) x.2.2 0 A (by rw [la]; exact hx) hnd (hno false (sAt A) hd' h1)]
      omega

theorem cnt_none : ∀ n : Nat, cntP (List.replicate n (-1, 0)) = 0
  | 0 => rfl
  | n + 1 => by
    rw [List.replicate_succ]
    simp only [cntP]
    rw [cnt_none n]
    rfl

/-- As many seats as cells of slots. -/
theorem seats_sum {g : Gr} (hc : checkF g = 0) : seatsN (seatsF g).1 (seatsF g).2 = sumL (slotsF g) := by
  have hw := hw_in (chk0.1 hc).1 (chk0.1 hc).2.1
  have e : seatsF g = laySlots 0 (slotsF g) (List.replicate (g.h * g.w).toNat (-1, 0)) (List.replicate (g.h * g.w).toNat (-1, 0)) := if_pos hc
  have hs := seats_are hc (c := 0) (by omega)
  rw [seatsN_cnt _ _ (by omega), e]
  have hrep : ∀ c, sAt (List.replicate (g.h * g.w).toNat (-1, 0)) c = (-1, 0) := by
    intro c
    unfold sAt
    rw [List.getD_eq_getElem?_getD, List.getElem?_replicate]
    split <;> rfl
  have none : ∀ d c, 0 ≤ c → IsSeat [] d c (sAt (List.replicate (g.h * g.w).toNat (-1, 0)) c) := fun d c _ => ⟨fun s k h => by obtain ⟨x, hx, _⟩ := h; simp at hx, fun _ => hrep c⟩
  have h := laySlots_cnt (g.h * g.w).toNat (slotsF g) [] _ _ List.length_replicate List.length_replicate (fun x hx z hz => by have := slots_in hc x hx z hz; omega) (fun d c s k s' k' a b => sits_unique hc a b) (none false) (none true)
  rw [cnt_none] at h
  have h' : cntP (laySlots 0 (slotsF g) (List.replicate (g.h * g.w).toNat (-1, 0)) (List.replicate (g.h * g.w).toNat (-1, 0))).1 + cntP (laySlots 0 (slotsF g) (List.replicate (g.h * g.w).toNat (-1, 0)) (List.replicate (g.h * g.w).toNat (-1, 0))).2 = 0 + 0 + sumL (slotsF g) := h
  omega

theorem sumL_le : ∀ (S : List (Int × Bool × List Int)), (∀ x ∈ S, x.2.2.length ≤ 257) → 0 ≤ sumL S ∧ sumL S ≤ 257 * S.length
  | [], _ => by simp [sumL]
  | x :: S, h => by
    have := sumL_le S (fun z hz => h z (List.mem_cons_of_mem _ hz))
    have := h x List.mem_cons_self
    simp only [sumL, List.length_cons]
    omega

end Go.Proofs.YtnakmganodkliaaDoorAm
