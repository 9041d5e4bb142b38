/- What single operations do: literals, made slices, pieces of slices, addresses. -/
import Derived.Test.YtnakmganodkliaaAm7
set_option linter.unusedVariables false
set_option linter.unusedSimpArgs false
namespace Go.Proofs.YtnakmganodkliaaAm
open Go

theorem list_seg (l : List Value) (k : Nat) (v : Value) (rest : List Value) (hk : k + (rest.length + 1) ≤ l.length) :
    (l.set k v).take (k + 1) ++ rest ++ (l.set k v).drop (k + 1 + rest.length) = l.take k ++ (v :: rest) ++ l.drop (k + (rest.length + 1)) := list_seg_step l k v rest hk

theorem fold_set : ∀ (l : List Value) (k off : Nat) (cells : List Value), off + k + l.length ≤ cells.length →
    (l.zipIdx k).foldl (fun (cs : Array Value) (p : Value × Nat) => cs.setIfInBounds (off + p.2) p.1) cells.toArray = (cells.take (off + k) ++ l ++ cells.drop (off + k + l.length)).toArray
  | [], k, off, cells, _ => by simp
  | v :: l, k, off, cells, h => by
    simp only [List.zipIdx_cons, List.foldl_cons]
    have e : (cells.toArray.setIfInBounds (off + k) v) = (cells.set (off + k) v).toArray := by simp
    rw [e, fold_set l (k + 1) off (cells.set (off + k) v) (by simp at h ⊢; omega)]
    congr 1
    have := list_seg cells (off + k) v l (by simp at h; omega)
    simpa [Nat.add_assoc] using this

theorem fill_step (place : Nat → Option (Nat × Nat)) (cells : List Value) (i : Nat) (v : Value) (rest : List (Nat × Value)) {off size : Nat} (hp : place i = some (off, size)) (hs : v.cells.size = size) (hf : off + size ≤ cells.length) :
    Instr.fill place cells.toArray ((i, v) :: rest) = Instr.fill place (cells.take off ++ v.cells.toList ++ cells.drop (off + size)).toArray rest := by
  have h1 : ¬ (v.cells.size ≠ size ∨ off + v.cells.size > cells.toArray.size) := by
    simp
    omega
  have h2 := fold_set v.cells.toList 0 off cells (by simp; omega)
  simp only [Nat.add_zero] at h2
  rw [Instr.fill, hp]
  simp only
  have h3 : (decide (v.cells.size ≠ size) || decide (off + v.cells.size > cells.toArray.size)) = false := by simpa using h1
  have h4 : v.cells.zipIdx.foldl (fun cs (x : Value × Nat) => match x with | (c, j) => cs.setIfInBounds (off + j) c) cells.toArray = (cells.take off ++ v.cells.toList ++ cells.drop (off + size)).toArray := by
    rw [← hs, ← Array.foldl_toList, Array.toList_zipIdx]
    simpa using h2
  rw [if_neg (by simpa using h3), h4]

section
variable {P : Program} {b : Beg} {X : Ctx}

theorem fill_rel {ev : Operand → D} {va : Operand → Value} (hev : ∀ x, RelD X (ev x) (va x)) (place : Nat → Option (Nat × Nat)) :
    ∀ (ps : List (Nat × Operand)) (cs cs' : List D) (us : List Value), RelDs X cs us → (∀ u, u ∈ us → u.oneCell' = true) → fillD place cs (ps.map fun p => (p.1, ev p.2)) = some cs' →
      ∃ us', Instr.fill place us.toArray (ps.map fun p => (p.1, va p.2)) = some us'.toArray ∧ RelDs X cs' us' ∧ (∀ u, u ∈ us' → u.oneCell' = true)
  | [], cs, cs', us, hr, h1, h => by
    simp only [List.map_nil, fillD, Option.some.injEq] at h
    subst h
    exact ⟨us, by simp [Instr.fill], hr, h1⟩
  | (i, x) :: ps, cs, cs', us, hr, h1, h => by
    simp only [List.map_cons, fillD] at h
    split at h
    · rename_i off size c hp hc
      split at h
      · rename_i hh
        simp only [Bool.and_eq_true, decide_eq_true_eq] at hh
        obtain ⟨hc1, hc2⟩ := cellsOf_rel hc (hev x)
        have hl := relDs_length hr
        have hlc := relDs_length hc1
        have hs : (va x).cells.size = size := by rw [← hh.1, ← hlc]; simp
        have hnew : RelDs X (cs.take off ++ c ++ cs.drop (off + size)) (us.take off ++ (va x).cells.toList ++ us.drop (off + size)) :=
          relDs_append.2 ⟨_, _, rfl, relDs_append.2 ⟨_, _, rfl, relDs_take off hr, hc1⟩, relDs_drop _ hr⟩
        have hone : ∀ u, u ∈ us.take off ++ (va x).cells.toList ++ us.drop (off + size) → u.oneCell' = true := by
          intro w hw
          simp only [List.mem_append] at hw
          rcases hw with (hw | hw) | hw
          · exact h1 w (List.mem_of_mem_take hw)
          · exact cells_all_one hc2 hc1 w hw
          · exact h1 w (List.mem_of_mem_drop hw)
        obtain ⟨us', hf, hr', ho'⟩ := fill_rel hev place ps _ cs' _ hnew hone h
        refine ⟨us', ?_, hr', ho'⟩
        rw [List.map_cons]
        rw [fill_step place us i (va x) _ hp hs (by omega)]
        exact hf
      · cases h
    · cases h

theorem s_build_struct {ev : Operand → D} {va : Operand → Value} (hev : ∀ x, RelD X (ev x) (va x)) {t : TypeId} {fs : Array Field} (hu : P.underlying t = some (.struct fs)) {z cs : List D} (hz : zeroD P t = some z) (parts : Array (Nat × Operand))
    {places : List (Nat × Nat)} (hp : fs.toList.mapM (fun f => (P.info? f.type).map fun i => (f.offset, i.size)) = some places)
    (hf : fillD (places.toArray[·]?) z (parts.toList.map fun p => (p.1, ev p.2)) = some cs) :
    ∃ v, (Instr.build t (parts.map fun p => (p.1, va p.2))).run P X.w = .ok v X.w ∧ RelD X (.agg cs) v := by
  obtain ⟨i, zv, hi, hz', hs, h1, rfl⟩ := zeroD_some hz
  obtain ⟨us', hfill, hr, _⟩ := fill_rel hev (places.toArray[·]?) parts.toList _ cs _ (relDs_v zv.cells.toList) h1 hf
  refine ⟨.agg us'.toArray, ?_, by simp only [RelD]; exact ⟨us', rfl, hr⟩⟩
  refine run_build X.w t _ us'.toArray ?_
  unfold Program.built
  rw [hi, hu]
  simp only [hz', hp]
  simpa using hfill

theorem s_build_array {ev : Operand → D} {va : Operand → Value} (hev : ∀ x, RelD X (ev x) (va x)) {t : TypeId} {n : Nat} {e : TypeId} (hu : P.underlying t = some (.array n e)) {z cs : List D} (hz : zeroD P t = some z) (parts : Array (Nat × Operand))
    {ie : TypeInfo} (hie : P.info? e = some ie) (hf : fillD (fun i => some (i * ie.size, ie.size)) z (parts.toList.map fun p => (p.1, ev p.2)) = some cs) :
    ∃ v, (Instr.build t (parts.map fun p => (p.1, va p.2))).run P X.w = .ok v X.w ∧ RelD X (.agg cs) v := by
  obtain ⟨i, zv, hi, hz', hs, h1, rfl⟩ := zeroD_some hz
  obtain ⟨us', hfill, hr, _⟩ := fill_rel hev (fun i => some (i * ie.size, ie.size)) parts.toList _ cs _ (relDs_v zv.cells.toList) h1 hf
  refine ⟨.agg us'.toArray, ?_, by simp only [RelD]; exact ⟨us', rfl, hr⟩⟩
  refine run_build X.w t _ us'.toArray ?_
  unfold Program.built
  rw [hi, hu]
  simp only [hz', hie]
  simpa using hfill

theorem range_mod (z : List Value) (s : Nat) (hs : z.length = s) (h0 : s ≠ 0) : ∀ n, (List.range (n * s)).map (fun j => z.toArray[j % z.toArray.size]!) = (List.replicate n z).flatten
  | 0 => by simp
  | n + 1 => by
    rw [Nat.succ_mul, List.range_add, List.map_append, range_mod z s hs h0 n, List.replicate_succ', List.flatten_append]
    congr 1
    simp only [List.flatten_cons, List.flatten_nil, List.append_nil, List.map_map]
    apply List.ext_getElem?
    intro j
    by_cases hj : j < s
    · have : (n * s + j) % s = j := by rw [Nat.add_comm, Nat.add_mul_mod_self_right, Nat.mod_eq_of_lt hj]
      simp [hj, this, hs, List.getElem?_eq_getElem (show j < z.length by omega)]
    · simp [hj, List.getElem?_eq_none (show z.length ≤ j by omega)]

theorem relDs_replicate {cs : List D} {us : List Value} (h : RelDs X cs us) : ∀ n, RelDs X (List.replicate n cs).flatten (List.replicate n us).flatten
  | 0 => by simp only [List.replicate_zero, List.flatten_nil, RelDs]
  | n + 1 => by
    simp only [List.replicate_succ, List.flatten_cons]
    exact relDs_append.2 ⟨_, _, rfl, h, relDs_replicate h n⟩

/-- The value of a slice over a new row. -/
theorem relD_new {id : Nat} (hid : id < X.H.length) {e : TypeId} {t : Ty} {xs : List t.El} {w' : World} {n len c : Nat} (cap : Option Nat) (hlen : len ≤ xs.length) (hc : len ≤ c) (hcap : ∀ k, cap = some k → c = k) (hcap2 : cap = none → xs.length ≤ c)
    (g : Nat) (hfit : c * t.size ≤ n) :
    RelD (X.put id (.live (.data e t xs)) (some ⟨g, 0, n⟩) X.S w') (.own id 0 len cap) (.slice (some ⟨g, 0, none⟩) len c) := by
  simp only [RelD]
  rw [slot_put X _ _ _ _ hid]
  refine ⟨by omega, _, c, rfl, hc, by simp, hcap, fun h => by have := hcap2 h; omega, .inr ⟨⟨g, 0, n⟩, by simp [Ctx.put], by simp, by simpa using hfit⟩⟩

theorem s_buildSlice (M : Mem b X) {nid : Nat} (hf : slot X.H nid = .free) (hl : nid < X.H.length) (hn : b.n ≤ nid) (rd : Nat → Option Row) (hrd : ∀ id r, rd id = some r → hget X.H id = some r)
    {ev : Operand → D} {va : Operand → Value} (hev : ∀ x, RelD X (ev x) (va x)) {t e : TypeId} (hu : P.underlying t = some (.slice e)) {ty : Ty} {z : List D} (hz : zeroD P e = some z) (len : Nat) (parts : Array (Nat × Operand))
    (hsz : ty.size = P.cellsOf e) (h0 : ty.size ≠ 0) (hsmall : len * ty.size ≤ 4096) {cs : List D} (hfill : fillD (fun i => some (i * ty.size, ty.size)) (List.replicate len z).flatten (parts.toList.map fun p => (p.1, ev p.2)) = some cs)
    {xs : List ty.El} (hxs : elems rd ty len cs = some xs) (hnd : nodupB (killIds cs) = true) :
    ∃ v X', (Instr.buildSlice t len (parts.map fun p => (p.1, va p.2))).run P X.w = .ok v X'.w ∧ Mem b X' ∧ X'.H = setWrites (X.H.set nid (.live (.data e ty xs))) (kills cs) ∧ Le X X' ∧ RelD X' (.own nid 0 len (some len)) v := by
  obtain ⟨i, zv, hi, hz', hs, h1, rfl⟩ := zeroD_some hz
  have hsz' : ty.size = i.size := by rw [hsz]; simp [Program.cellsOf, hi]
  have hzl : zv.cells.toList.length = ty.size := by rw [hsz']; simpa using hs
  obtain ⟨us', hfill', hr, ho⟩ := fill_rel hev (fun i => some (i * ty.size, ty.size)) parts.toList _ cs _ (relDs_replicate (relDs_v zv.cells.toList) len) (by
    intro u hu
    simp only [List.mem_flatten, List.mem_replicate] at hu
    obtain ⟨l, ⟨_, rfl⟩, hu⟩ := hu
    exact h1 u hu) hfill
  have hlive := (elems_rel (S' := fun _ => True) M (fun _ _ => trivial) rd hrd ty len cs xs us' hxs hr (fun _ _ _ _ => trivial)).2.2.1
  obtain ⟨Y, MY, LY, hYH, hYρ, hYw, hYS, hYb, _⟩ := mem_kills (killIds cs) M hnd hlive
  obtain ⟨hreps, hxl, _, _⟩ := elems_rel M hYS rd hrd ty len cs xs us' hxs hr hYb
  rw [← hYw] at hreps
  have hne : nid ∉ killIds cs := fun h => by
    have := hlive nid h
    apply this
    unfold hget
    rw [hf]
  have hfY : slot Y.H nid = .free := by
    rw [hYH]
    show slot (setWrites X.H (kills cs)) nid = _
    rw [slot_setWrites _ _ _ (kills_ne hne), hf]
  have hlY : nid < Y.H.length := by rw [hYH, setWrites_length]; exact hl
  have husl : us'.length = len * ty.size := by rw [reps_length hreps, hxl]
  have hc : Content Y (.data e ty xs) ⟨Y.w.heap.size, 0, us'.toArray.size⟩ us'.toArray e := ⟨rfl, rfl, us', hreps, ho, by simp, by simp⟩
  obtain ⟨M', L'⟩ := mem_alloc MY hfY hlY hn (.data e ty xs) us'.toArray e hc
  refine ⟨.slice (some ⟨Y.w.heap.size, 0, none⟩) len len, _, ?_, M', ?_, LY.trans L', relD_new hlY (some len) (by omega) (Nat.le_refl _) (by simp) (by simp) _ (by simp [husl])⟩
  · have hrange : ((Array.range (len * i.size)).map (fun j => zv.cells[j % zv.cells.size]!)) = (List.replicate len zv.cells.toList).flatten.toArray := by
      have := range_mod zv.cells.toList ty.size hzl h0 len
      rw [← this, hsz']
      apply Array.ext'
      simp
    have hsm : ¬ (2 ^ 24 < len * i.size) := by rw [← hsz']; omega
    have hfl : Instr.fill (fun j => some (j * i.size, i.size)) (List.replicate len zv.cells.toList).flatten.toArray (parts.toList.map fun p => (p.1, va p.2)) = some us'.toArray := by rw [← hsz']; exact hfill'
    by_cases hl0 : len * i.size = 0
    · have hlen0 : len = 0 := by
        rcases Nat.mul_eq_zero.1 hl0 with h | h
        · exact h
        · exact absurd (hsz'.trans h) h0
      subst hlen0
      simp at hfl
      simp [Instr.buildSlice, run_underlying hu, run_sizeOf' hi, hfl, newRow, Array.range_zero', hYw]
      rfl
    · simp [Instr.buildSlice, run_underlying hu, run_sizeOf' hi, zeroValue, typeInfo, hi, hz', hl0, hsm, hrange, hfl, newRow, hYw]
      rfl
  · show Y.H.set nid _ = _
    rw [hYH]
    exact (setWrites_set _ _ _ _ (kills_ne hne)).symm

theorem s_buildSlice_box (M : Mem b X) {nid : Nat} (hf : slot X.H nid = .free) (hl : nid < X.H.length) (hn : b.n ≤ nid)
    {ev : Operand → D} {va : Operand → Value} (hev : ∀ x, RelD X (ev x) (va x)) {t e : TypeId} (hu : P.underlying t = some (.slice e)) {sz : Nat} {z : List D} (hz : zeroD P e = some z) (len : Nat) (parts : Array (Nat × Operand))
    (hsz : sz = P.cellsOf e) (h0 : sz ≠ 0) (hsmall : len * sz ≤ 4096) {cs : List D} (hfill : fillD (fun i => some (i * sz, sz)) (List.replicate len z).flatten (parts.toList.map fun p => (p.1, ev p.2)) = some cs) :
    ∃ v X', (Instr.buildSlice t len (parts.map fun p => (p.1, va p.2))).run P X.w = .ok v X'.w ∧ Mem b X' ∧ X'.H = X.H.set nid (.live (.box e cs)) ∧ Le X X' ∧ RelD X' (.bsl nid len sz) v := by
  obtain ⟨i, zv, hi, hz', hs, h1, rfl⟩ := zeroD_some hz
  have hsz' : sz = i.size := by rw [hsz]; simp [Program.cellsOf, hi]
  have hzl : zv.cells.toList.length = sz := by rw [hsz']; simpa using hs
  obtain ⟨us', hfill', hr, ho⟩ := fill_rel hev (fun i => some (i * sz, sz)) parts.toList _ cs _ (relDs_replicate (relDs_v zv.cells.toList) len) (by
    intro u hu
    simp only [List.mem_flatten, List.mem_replicate] at hu
    obtain ⟨l, ⟨_, rfl⟩, hu⟩ := hu
    exact h1 u hu) hfill
  have hc : Content X (.box e cs) ⟨X.w.heap.size, 0, us'.toArray.size⟩ us'.toArray e := ⟨rfl, rfl, us', rfl, hr, ho⟩
  obtain ⟨M', L'⟩ := mem_alloc M hf hl hn (.box e cs) us'.toArray e hc
  refine ⟨.slice (some ⟨X.w.heap.size, 0, none⟩) len len, _, ?_, M', rfl, L', ?_⟩
  · have hrange : ((Array.range (len * i.size)).map (fun j => zv.cells[j % zv.cells.size]!)) = (List.replicate len zv.cells.toList).flatten.toArray := by
      have := range_mod zv.cells.toList sz hzl h0 len
      rw [← this, hsz']
      apply Array.ext'
      simp
    have hsm : ¬ (2 ^ 24 < len * i.size) := by rw [← hsz']; omega
    have hfl : Instr.fill (fun j => some (j * i.size, i.size)) (List.replicate len zv.cells.toList).flatten.toArray (parts.toList.map fun p => (p.1, va p.2)) = some us'.toArray := by rw [← hsz']; exact hfill'
    by_cases hl0 : len * i.size = 0
    · have hlen0 : len = 0 := by
        rcases Nat.mul_eq_zero.1 hl0 with h | h
        · exact h
        · exact absurd (hsz'.trans h) h0
      subst hlen0
      simp at hfl
      simp [Instr.buildSlice, run_underlying hu, run_sizeOf' hi, hfl, newRow, Array.range_zero']
      rfl
    · simp [Instr.buildSlice, run_underlying hu, run_sizeOf' hi, zeroValue, typeInfo, hi, hz', hl0, hsm, hrange, hfl, newRow]
      rfl
  · simp only [RelD]
    rw [slot_put X _ _ _ _ hl]
    exact ⟨⟨X.w.heap.size, 0, us'.toArray.size⟩, by simp [Ctx.put], rfl⟩

end
end Go.Proofs.YtnakmganodkliaaAm
