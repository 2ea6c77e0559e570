/- The engine's operations are sound, twelfth part: make, copy, texts and bytes; all of them in one. -/
import Derived.Test.YtbhefgajgdcajaaSxSnd11
import Derived.Laws.BytesString
set_option linter.unusedVariables false
set_option linter.unusedSimpArgs false
namespace Sx
open Go

section
variable {P : Program} {o : Oper}

theorem snd_copy {c : Call} {t e : TypeId} {i : TypeInfo} {d s : Operand} (h : o.op = .call c) (hc : c.callee = .builtin .copy) (h0 : c.argTypes[0]? = some t) (has : c.args = #[d, s])
    (ht : P.underlying t = some (.slice e)) (hi : P.info? e = some i) : Sound P o (.copy i.size d s) := by
  intro ρ va hf w β res hp n rs r hd hrs hr hn hop ho
  have hdd := hd d (by simp [SOp.operands])
  have hx := hd s (by simp [SOp.operands])
  have hexec : ∀ v w', (Builtin.copy_ c.argTypes o.type #[va d, va s]).run P w = .ok v w' → (execOp va o).run P w = .ok (.value v) w' := by
    intro v w' hw
    simp only [execOp, h, resolve, hc, has, List.map_toArray, List.map_cons, List.map_nil, Sem.run_bind, Sem.run_pure, Result.andThen_ok, invoke, builtin, hw]
  simp only [opFn] at hop
  split at hop
  case h_2 => cases hop
  rename_i j sz' lo len mc q m g e1 e2
  rw [e1] at hdd
  split at hop
  case isFalse => cases hop
  rename_i hsz'; subst hsz'
  have hrj := hrs j (by simp [need, e1, SV.nm])
  rw [← hrj] at hop
  split at hop
  case h_2 => cases hop
  rename_i sz'' k f hres
  split at hop
  case isFalse => cases hop
  rename_i hsz''; subst hsz''
  simp only [Option.some.injEq] at hop; subst hop
  obtain ⟨hq, hlek⟩ := ho
  obtain ⟨ad, cap, hb, hle, hpos, hmc, ad', hv, haddr⟩ := hdd
  obtain ⟨hl1, V, hV1, hV2⟩ := src_world (P := P) hr hpos e2 hq (fun j hj => hrs j (by simp [need, hj])) hx
  have hsat := hr.sat j
  rw [hres, hb] at hsat
  obtain ⟨_, ad2, cap2, b1, b2, b3⟩ := hsat
  simp only [Option.some.injEq, Bd.mk.injEq] at b1
  obtain ⟨rfl, rfl⟩ := b1
  have hc0 : 0 < len → 0 < mc.getD (cap / i.size - lo) := by
    intro hl
    cases mc with
    | none =>
      simp only [Option.getD_none]
      have : (lo + len) ≤ cap / i.size := (Nat.le_div_iff_mul_le hpos).2 hle
      omega
    | some m => have := (hmc m rfl).1; simp only [Option.getD_some]; omega
  obtain ⟨nn, hnn⟩ : ∃ nn, nn = min m len := ⟨_, rfl⟩
  have hnn1 : nn ≤ m := by omega
  have hnn2 : nn ≤ len := by omega
  have hcells := hV2 nn hnn1 w rfl
  have hW : (V.take (nn * i.size)).length = nn * i.size := by
    have := Nat.mul_le_mul_right i.size hnn1
    rw [List.length_take, hV1.len]; omega
  have hrunpre : ∀ w', (match ad' with | some a => (storeCells a (V.take (nn * i.size))).run P w | none => .ok () w) = .ok () w' →
      (Builtin.copy_ c.argTypes o.type #[va d, va s]).run P w = .ok (.int .i64 nn) w' := by
    intro w' hst
    have hmin : Nat.min m len = nn := hnn.symm
    unfold Builtin.copy_
    simp only [h0, hv, List.getElem?_toArray, List.getElem?_cons_zero, List.getElem?_cons_succ, Sem.run_bind, run_underlying ht, Result.andThen_ok, run_sizeOf_of hi, hl1, hmin, hcells]
    cases ad' with
    | none => simp only [Result.ok.injEq] at hst; simp [hst, goInt]
    | some a => simp only at hst; simp [hst, goInt]
  rcases Nat.eq_zero_or_pos nn with hz | hz
  · -- nothing is written
    subst hz
    have hrun := hrunpre w (by cases ad' <;> simp [storeCells])
    have hsame : (fun j' => if lo ≤ j' ∧ j' < lo + min m len then g (j' - lo) else f j') = f := by
      funext j'; rw [if_neg (by omega)]
    rw [hsame, ← hnn]
    have hrel := hr.same (i := j) (r := .recs i.size k f) (by rw [← hres]; exact hr.sat j)
    exact ⟨_, w, β, hp, ⟨.inl (hexec _ _ hrun), ⟨rfl, trivial⟩, fun _ _ => rfl, Env.le_refl β, fun _ => hn, hrel, Ext.refl w⟩⟩
  · obtain ⟨a, ha, ha'⟩ := haddr (hc0 (by omega))
    rcases b3 with b3 | ⟨b, vs, tt, fr, b4, b5, b6, b7, b8⟩
    · have : 1 * i.size ≤ (lo + len) * i.size := Nat.mul_le_mul_right _ (by omega)
      omega
    · rw [ha] at b4
      simp only [Option.some.injEq] at b4; subst b4
      subst ha'
      have hobj := sub_single.1 (b6 ▸ hr.sub j)
      have hfit : lo * i.size + nn * i.size ≤ cap := by
        rw [← Nat.add_mul]
        exact Nat.le_trans (Nat.mul_le_mul_right _ (by omega)) hle
      have hst := run_storeCells (P := P) (lo * i.size) (V.take (nn * i.size)) w vs 0 hobj (by rw [b5]; exact b7) (fun x hx => hV1.plain hpos x (List.mem_of_mem_take hx)) (by omega)
      simp only [Nat.add_zero] at hst
      have hrun := hrunpre _ (by simp only [add_none, Nat.zero_add]; exact hst)
      rw [← hnn]
      refine done_write hr hn b6 (v := .int .i64 nn) ⟨rfl, trivial⟩ (.inr (hexec _ _ hrun)) ⟨hpos, some ⟨b, 0, none⟩, cap, by rw [hb, ha], b2, .inr ⟨b, _, tt, fr, rfl, ?_, rfl, b7, fun j' hj' => ?_⟩⟩
      · rw [splice_length (by omega)]; exact b5
      · have hrow : (splice vs (lo * i.size) (V.take (nn * i.size)) |>.drop (j' * i.size)).take i.size = if lo ≤ j' ∧ j' < lo + nn then (V.drop ((j' - lo) * i.size)).take i.size else (vs.drop (j' * i.size)).take i.size := by
          have hj'' : j' * i.size + i.size ≤ k * i.size := by
            have := Nat.mul_le_mul_right i.size (Nat.succ_le_of_lt hj')
            simpa [Nat.succ_mul] using this
          apply List.ext_getElem?
          intro t
          by_cases ht' : t < i.size
          · rw [row_get _ _ _ _ ht', splice_get (by omega), hW]
            by_cases hin : lo ≤ j' ∧ j' < lo + nn
            · rw [if_pos hin, row_get _ _ _ _ ht']
              have e1 : j' * i.size = lo * i.size + (j' - lo) * i.size := by rw [← Nat.add_mul]; congr 1; omega
              have e2 : (j' - lo) * i.size + i.size ≤ nn * i.size := by
                have := Nat.mul_le_mul_right i.size (show j' - lo + 1 ≤ nn by omega)
                simpa [Nat.add_mul] using this
              rw [if_neg (by omega), if_pos (by omega), List.getElem?_take_of_lt (by omega)]
              congr 1; omega
            · rw [if_neg hin, row_get _ _ _ _ ht']
              rcases Nat.lt_or_ge j' lo with hlt | hge
              · have := Nat.mul_le_mul_right i.size (show j' + 1 ≤ lo by omega)
                rw [Nat.add_mul, Nat.one_mul] at this
                rw [if_pos (by omega)]
              · have := Nat.mul_le_mul_right i.size (show lo + nn ≤ j' by omega)
                rw [Nat.add_mul] at this
                rw [if_neg (by omega), if_neg (by omega)]
          · rw [List.getElem?_eq_none (by simp; omega)]
            split
            · rw [List.getElem?_eq_none (by simp; omega)]
            · rw [List.getElem?_eq_none (by simp; omega)]
        rw [hrow]
        by_cases hin : lo ≤ j' ∧ j' < lo + nn
        · rw [if_pos hin]
          show CV.DenL β (if lo ≤ j' ∧ j' < lo + nn then _ else _) _
          rw [if_pos hin]
          exact hV1.den (j' - lo) (by omega)
        · rw [if_neg hin]
          show CV.DenL β (if lo ≤ j' ∧ j' < lo + nn then _ else _) _
          rw [if_neg hin]
          exact b8 j' hj'


theorem push_all : ∀ (ns : List Int) (s : ByteArray), ns.foldl (fun r n => r.push (UInt8.ofNat n.toNat)) s = ⟨s.data ++ (ns.map fun n => UInt8.ofNat n.toNat).toArray⟩
  | [], s => by simp
  | n :: ns, s => by
    rw [List.foldl_cons, push_all ns]
    simp [ByteArray.push]

theorem snd_convBS {s d e : TypeId} {x : Operand} (h1 : P.underlying s = some (.slice e)) (h2 : P.underlying d = some .string) (h3 : P.underlying e = some (.int .u8)) (h : o.op = .convert s d x) : Sound P o (.convBS x) := by
  intro ρ va hf w β res hp n rs r hd hrs hr hn hop ho
  have hx := hd x (by simp [SOp.operands])
  simp only [opFn] at hop
  split at hop
  case h_2 => cases hop
  rename_i p m g e1
  have hslice : ∀ {y : SV}, ρ x = y → (∀ t, y ≠ .cv (.val (.string t))) → ∃ a k c, va x = .slice a k c := by
    intro y hy hne
    unfold src at e1
    rw [hy] at e1 hx
    split at e1
    · exact ⟨none, 0, 0, hx.1⟩
    · rename_i t; exact absurd rfl (hne t)
    · obtain ⟨_, _, _, _, _, _, ad', hv, _⟩ := hx
      exact ⟨_, _, _, hv⟩
    · obtain ⟨_, _, _, hv, _⟩ := hx
      exact ⟨_, _, _, hv⟩
    · cases e1
  split at hop
  · cases hop
  rename_i hne
  simp only [Option.some.injEq] at hop; subst hop
  obtain ⟨hp', hbytes⟩ := ho
  obtain ⟨a, k, c, hv⟩ := hslice rfl (fun t ht => hne t ht)
  obtain ⟨hl1, V, hV1, hV2⟩ := src_world (P := P) hr (by decide) e1 hp' (fun j hj => hrs j (by simp [need, hj])) hx
  have hkm : k = m := by
    rw [hv] at hl1
    simp [Builtin.lenOf] at hl1
    exact hl1
  subst hkm
  have hV := hV2 k (Nat.le_refl _) w rfl
  have hlen := hV1.len
  rw [Nat.mul_one] at hlen hV
  rw [List.take_of_length_le (by omega)] at hV
  -- the bytes
  let bs : List Int := (List.range k).map fun j => match (g j).headD .any with
    | .val (.int .u8 b) => b
    | _ => 0
  have hbl : bs.length = k := by simp [bs]
  have hVb : V = bs.map (.int .u8) := by
    apply List.ext_getElem?
    intro j
    by_cases hj : j < k
    · obtain ⟨b, hb⟩ := hbytes j hj
      have hden := hV1.den j hj
      rw [hb, Nat.mul_one] at hden
      rw [List.drop_eq_getElem_cons (by omega), List.take_succ_cons, List.take_zero] at hden
      have hVj := hden.1.1
      rw [List.getElem?_eq_getElem (by omega), hVj]
      simp [bs, hj, hb]
    · rw [List.getElem?_eq_none (by omega), List.getElem?_eq_none (by simp; omega)]
  have hstr : bstr k g = ⟨(bs.map fun n => UInt8.ofNat n.toNat).toArray⟩ := by
    unfold bstr
    congr 2
    simp only [bs, List.map_map]
    apply List.map_congr_left
    intro j hj
    obtain ⟨b, hb⟩ := hbytes j (by simpa using hj)
    simp [hb, cvB]
  refine done_pure hr hn (v := .string (bstr k g)) ?_ ⟨rfl, trivial⟩
  have hconv : (convert s d (va x)).run P w = .ok (.string (bstr k g)) w := by
    rw [hv, run_convert_bytes_string w s d e a k c h1 h3 h2]
    rw [hv] at hV
    cases a with
    | none =>
      have hV0 : V = [] := by simpa [Builtin.firstCells, eq_comm] using hV
      have hk0 : k = 0 := by rw [← hlen, hV0]; rfl
      subst hk0
      simp [Conv.bytesToString, bstr]
      rfl
    | some a =>
      have hload : (loadCells a k).run P w = .ok (bs.map (Value.int .u8)).toArray w := by
        simp only [Builtin.firstCells, Nat.mul_one] at hV
        rw [hV, hVb]
      have he : ByteArray.empty.data = #[] := rfl
      rw [Go.run_bytesToString w a k c bs hload, push_all, hstr, he]
      simp
  simp [execOp, h, hconv]

theorem snd_convSB {s d e : TypeId} {x : Operand} (h1 : P.underlying s = some .string) (h2 : P.underlying d = some (.slice e)) (h3 : P.underlying e = some (.int .u8)) (h : o.op = .convert s d x) : Sound P o (.convSB x) := by
  intro ρ va hf w β res hp n rs r hd hrs hr hn hop ho
  have hx := hd x (by simp [SOp.operands])
  simp only [opFn] at hop
  split at hop
  case h_2 => cases hop
  rename_i t e1
  rw [e1] at hx
  simp only [Option.some.injEq] at hop; subst hop
  have hsz : t.size < 9223372036854775808 := ho
  obtain ⟨cap, hcap⟩ : ∃ cap, cap = (Question.appendCap t.size 0 e).cut (w.tape w.drawn (Question.appendCap t.size 0 e)) := ⟨_, rfl⟩
  have hge : t.size ≤ cap := by rw [hcap]; simp only [Question.cut]; omega
  have hch : (choose (Question.appendCap t.size 0 e)).run P w = .ok cap { w with drawn := w.drawn + 1 } := by
    rw [run_choose, hcap]; rfl
  let elems : List Value := (t.data.toList.map fun b => .int .u8 b.toNat) ++ List.replicate (cap - t.size) (.int .u8 0)
  have hel : elems.length = cap := by simp [elems]; omega
  have hobj : (({ w with drawn := w.drawn + 1 } : World).alloc (.cells elems.toArray e)).heap[w.heap.size]? = some (.cells elems.toArray e) := by
    simp [World.alloc]
  have hfr : ((({ w with drawn := w.drawn + 1 } : World).alloc (.cells elems.toArray e)).freeze ⟨w.heap.size, cap, none⟩ 1) = ({ w with drawn := w.drawn + 1 } : World).alloc (.cells elems.toArray e (cap, cap + 1)) := by
    unfold World.freeze World.alloc
    simp only [Nat.one_ne_zero, if_false]
    congr 1
    apply Array.ext (by simp)
    intro j hj1 hj2
    rw [Array.getElem_modify]
    by_cases hjw : w.heap.size = j
    · subst hjw; simp
    · rw [if_neg hjw, Array.getElem_push, Array.getElem_push]
      simp only [Array.size_modify, Array.size_push] at hj1
      rw [dif_pos (by omega), dif_pos (by omega)]
  have hconv : (convert s d (.string t)).run P w = .ok (.slice (some ⟨w.heap.size, 0, none⟩) t.size cap) (({ w with drawn := w.drawn + 1 } : World).alloc (.cells elems.toArray e (cap, cap + 1))) := by
    have hshape : (({ w with drawn := w.drawn + 1 } : World).alloc (.cells elems.toArray e)).shape? w.heap.size = some (e, cap) := by
      unfold World.shape?
      rw [hobj]; simp [hel]
    have helems : (t.data.map fun b => Value.int .u8 b.toNat) ++ Array.replicate (cap - t.size) (.int .u8 0) = elems.toArray := by
      apply Array.ext'; simp [elems]
    simp only [convert, Sem.run_bind, run_underlying h1, run_underlying h2, run_underlying h3, Result.andThen_ok, Conv.stringToBytes, hch, helems, newRow, run_newObj, Sem.run_pure, markStringish, run_shape]
    have hal : ({ ({ w with drawn := w.drawn + 1 } : World) with heap := w.heap.push (.cells elems.toArray e) } : World) = ({ w with drawn := w.drawn + 1 } : World).alloc (.cells elems.toArray e) := rfl
    simp only [hal, hshape, run_freeze, hfr, Result.andThen_ok]
  have hrel := hr.drewAlloc (n := n) (bd := ⟨some ⟨w.heap.size, 0, none⟩, cap⟩) (r := .recs 1 t.size fun j => [.val (.int .u8 (sbyte t j))]) (o := .cells elems.toArray e (cap, cap + 1)) hn
    ⟨by decide, some ⟨w.heap.size, 0, none⟩, cap, rfl, by omega, .inr ⟨w.heap.size, elems, e, (cap, cap + 1), rfl, hel, rfl, .inr (Nat.le_refl _), fun j hj => by
      have hjl : j < t.data.toList.length := by simpa using hj
      rw [Nat.mul_one, List.drop_eq_getElem_cons (by omega), List.take_succ_cons, List.take_zero]
      refine ⟨⟨?_, trivial⟩, trivial⟩
      simp only [elems]
      rw [List.getElem_append_left (by simpa using hjl)]
      unfold sbyte
      rw [List.getD_eq_getElem?_getD, List.getElem?_eq_getElem hjl]
      simp⟩⟩
  refine ⟨.slice (some ⟨w.heap.size, 0, none⟩) t.size cap, _, _, _, ⟨.inl ?_, ?_, fun j hj => up_ne _ _ hj, Env.le_up hn, fun hni => (hni (by simp)).elim, hrel, drewAlloc_ext _ _⟩⟩
  · simp [execOp, h, hx.1, hconv]
  · refine ⟨_, _, up_same _ _ _, by simpa using hge, by decide, (fun m hm => by cases hm), some ⟨w.heap.size, 0, none⟩, by simp, (fun _ => ⟨_, rfl, by simp [add_none]⟩)⟩

theorem snd_mksl {t e : TypeId} {i : TypeInfo} {z : List Value} {l c : Operand} (h : o.op = .makeSlice t l c) (ht : P.underlying t = some (.slice e)) (hi : P.info? e = some i) (hz : zeroOf P e = some z) (hsz : 0 < i.size) (hby : 0 < i.bytes) :
    Sound P o (.mksl i.size i.bytes z l c) := by
  intro ρ va hf w β res hp n rs r hd hrs hr hn hop ho
  have hl := hd l (by simp [SOp.operands])
  have hc := hd c (by simp [SOp.operands])
  obtain ⟨i', zv, hi', _, hzl, hpl, hzlen, hzr, _⟩ := zeroOf_run (w := w) hz
  rw [hi] at hi'; cases hi'
  simp only [opFn] at hop
  split at hop
  case h_2 => cases hop
  rename_i k1 a k2 b e1 e2
  rw [e1] at hl; rw [e2] at hc
  simp only [Option.some.injEq] at hop; subst hop
  obtain ⟨ho1, ho2, ho3⟩ := ho
  have hzne : z ≠ [] := by intro e0; rw [e0] at hzlen; simp at hzlen; omega
  have hzc : zv.cells = z.toArray := by rw [← hzl]
  have hb64 : b ≤ 140737488355328 := by
    have : b * 1 ≤ b * i.bytes := Int.mul_le_mul_of_nonneg_left (by omega) (by omega)
    omega
  have hwa : IntKind.i64.wrap a = a := inI64_wrap ⟨by omega, by omega⟩
  have hwb : IntKind.i64.wrap b = b := inI64_wrap ⟨by omega, by omega⟩
  have e48 : (2 : Int) ^ 48 = 281474976710656 := by decide
  have hmul : (i.bytes : Int) * b ≤ 140737488355328 := by rw [Int.mul_comm]; exact ho3
  have hbig : ¬ (b < 0 ∨ 281474976710656 < (i.bytes : Int) * b) := by omega
  have hrep := flatten_rep b.toNat z hzne
  rw [hzlen] at hrep
  have hrep' : (Array.range (b.toNat * i.size)).map (fun j => z.toArray[j % z.toArray.size]!) = ((List.replicate b.toNat z).flatten).toArray := by rw [← hrep]
  have hlen : (List.replicate b.toNat z).flatten.length = b.toNat * i.size := by simp [hzlen]
  have hrun : (Instr.makeSlice t (.int k1 a) (.int k2 b)).run P w = .ok (.slice (some ⟨w.heap.size, 0, none⟩) a.toNat b.toNat) (w.alloc (.cells ((List.replicate b.toNat z).flatten).toArray e)) := by
    unfold Instr.makeSlice
    by_cases h0 : b.toNat * i.size = 0
    · have hb0 : b.toNat = 0 := by rcases Nat.mul_eq_zero.1 h0 with h | h <;> omega
      have hr0 : Array.range 0 = #[] := rfl
      simp [run_underlying ht, asInt, asIntOf, typeInfo, hi, hwa, hwb, hbig, show ¬ a < 0 by omega, show ¬ b < a by omega, run_sizeOf_of hi, hb0, newRow, hr0]
    · simp [run_underlying ht, asInt, asIntOf, typeInfo, hi, hwa, hwb, hbig, show ¬ a < 0 by omega, show ¬ b < a by omega, run_sizeOf_of hi, h0, newRow, hzr, hzc]
      rw [← hrep']; simp
  refine done_alloc hr hn (bd := ⟨some ⟨w.heap.size, 0, none⟩, b.toNat * i.size⟩) (o := .cells ((List.replicate b.toNat z).flatten).toArray e) (v := .slice (some ⟨w.heap.size, 0, none⟩) a.toNat b.toNat) ?_ ?_ ?_
  · simp [execOp, h, hl.1, hc.1, hrun]
  · refine ⟨_, _, up_same _ _ _, ?_, hsz, ?_, some ⟨w.heap.size, 0, none⟩, ?_, (fun _ => ⟨_, rfl, by simp [add_none]⟩)⟩
    · rw [Nat.zero_add]; exact Nat.mul_le_mul_right _ (by omega)
    · intro m hm
      split at hm
      · cases hm
      · simp only [Option.some.injEq] at hm; subst hm
        exact ⟨by omega, by simp⟩
    · split
      · simp [Nat.mul_div_cancel _ hsz]
      · simp
  · refine ⟨hsz, _, _, rfl, Nat.le_refl _, .inr ⟨w.heap.size, _, e, (0, 0), rfl, hlen, rfl, unfr0 _, fun j hj => ?_⟩⟩
    have key : ∀ (m j : Nat), j < m → (((List.replicate m z).flatten.drop (j * i.size)).take i.size) = z := by
      intro m
      induction m with
      | zero => intro j hj; omega
      | succ m ih =>
        intro j hj
        simp only [List.replicate_succ, List.flatten_cons]
        cases j with
        | zero => simp [← hzlen]
        | succ j =>
          rw [Nat.succ_mul, Nat.add_comm, ← List.drop_drop, show (z ++ (List.replicate m z).flatten).drop i.size = (List.replicate m z).flatten by rw [← hzlen]; simp]
          exact ih j (by omega)
    rw [key _ j hj]
    exact denL_vals z hpl

theorem isByte_of {e : TypeId} (h : isByte P e = true) : P.underlying e = some (.int .u8) := by
  unfold isByte at h
  split at h
  · assumption
  · cases h

theorem eqIn_slcN {w : World} {d : Nat} {t e : TypeId} (ht : P.underlying t = some (.slice e)) (a : Option Addr) (k c : Nat) : (Op.equalIn (d + 1) t (.slice a k c) (.slice none 0 0)).run P w = .ok a.isNone w := by
  cases a <;> simp [Op.equalIn, run_underlying ht]
theorem eq_slcN {w : World} {t e : TypeId} (ht : P.underlying t = some (.slice e)) (a : Option Addr) (k c : Nat) : (Op.equal t (.slice a k c) (.slice none 0 0)).run P w = .ok a.isNone w := eqIn_slcN (d := 9999) ht a k c

theorem snd_eqN {t ty e : TypeId} {x y : Operand} (ht : P.underlying t = some (.slice e)) (h : o.op = .binOp .eql t x y ty) : Sound P o (.eqN x y) := by
  intro ρ va hf w β res hp n rs r hd _ hr hn hop _
  have hx := hd x (by simp [SOp.operands])
  have hy := hd y (by simp [SOp.operands])
  have key : ∀ (a : Option Addr) (k c : Nat), va x = .slice a k c → va y = .slice none 0 0 → (execOp va o).run P w = .ok (.value (.bool a.isNone)) w := by
    intro a k c hv hw
    have hg : (eqGuard .eql t x y (.slice a k c) (.slice none 0 0)).run P w = .ok () w := eqGuard_plain (by simp) (by simp)
    simp [execOp, h, hv, hw, hg, binOp, eq_slcN ht]
  simp only [opFn] at hop
  split at hop
  · rename_i ex ey
    rw [ex] at hx; rw [ey] at hy
    simp only [Option.some.injEq] at hop; subst hop
    exact done_pure hr hn (key _ _ _ hx.1 hy.1) ⟨rfl, trivial⟩
  · rename_i sz k mc f ex ey
    rw [ex] at hx; rw [ey] at hy
    simp only [Option.some.injEq] at hop; subst hop
    obtain ⟨_, ad, cap, hv, _, _, h4⟩ := hx
    refine done_pure hr hn (key _ _ _ hv hy.1) ⟨_, rfl, fun hb => ?_⟩
    rcases h4 with h4 | ⟨a, rfl, _⟩
    · exact h4
    · simp at hb
  · rename_i i sz lo k mc ex ey
    rw [ex] at hx; rw [ey] at hy
    simp only [Option.some.injEq] at hop; subst hop
    obtain ⟨ad, cap, hb, hle, hpos, hmc, ad', hv, haddr⟩ := hx
    refine done_pure hr hn (key _ _ _ hv hy.1) ⟨_, rfl, fun hbb => ?_⟩
    have hlen : k ≤ mc.getD (cap / sz - lo) := by
      cases mc with
      | none =>
        simp only [Option.getD_none]
        have : (lo + k) ≤ cap / sz := (Nat.le_div_iff_mul_le hpos).2 hle
        omega
      | some m => exact (hmc m rfl).1
    rcases Nat.eq_zero_or_pos (mc.getD (cap / sz - lo)) with h0 | h0
    · omega
    · obtain ⟨a, _, rfl⟩ := haddr h0
      simp at hbb
  · cases hop

theorem snd_markS {s d e e' : TypeId} {x : Operand} (h : o.op = .convert s d x) (hs : P.underlying s = some (.slice e')) (hd' : P.underlying d = some (.slice e)) (hsd : s = d) (he : P.underlying e = some (.int .u8)) : Sound P o (.markS x) := by
  intro ρ va hf w β res hp n rs r hd hrs hr hn hop ho
  have hx := hd x (by simp [SOp.operands])
  simp only [opFn] at hop
  split at hop
  case h_2 => cases hop
  rename_i i k ex
  rw [ex] at hx
  rw [← hrs i (by simp [need, ex, SV.nm])] at hop
  split at hop
  case h_2 => cases hop
  rename_i l hres
  simp only [Option.some.injEq] at hop; subst hop
  have hs' := hr.sat i
  rw [hres] at hs'
  obtain ⟨b, vs, t, fr, e1, e2, e3, e4⟩ := hs'
  have hx' := hx
  obtain ⟨ad, cap, hb, hle, hpos, hmc, ad', hv, haddr⟩ := hx'
  rw [hb] at e1
  simp only [Option.some.injEq, Bd.mk.injEq] at e1
  obtain ⟨rfl, rfl⟩ := e1
  simp only [Option.getD_none, Nat.div_one, Nat.sub_zero, Nat.zero_mul, Nat.zero_add, Nat.mul_one] at hle hv haddr
  have hk0 : 0 < k := ho
  obtain ⟨a, ha, ha'⟩ := haddr (by omega)
  simp only [Option.some.injEq] at ha; subst ha
  rw [add_none, Nat.zero_add] at ha'
  subst ha'
  have hobj := sub_single.1 (e3 ▸ hr.sub i)
  have hlen := CV.denL_length _ _ e2
  have hshape : w.shape? b = some (t, vs.length) := by
    unfold World.shape?
    rw [hobj]; simp
  obtain ⟨fr', hfr', hun'⟩ : ∃ fr', (if fr.1 == fr.2 then (vs.length, vs.length + 1) else (min fr.1 vs.length, max fr.2 (vs.length + 1))) = fr' ∧ Unfr fr' l.length := by
    refine ⟨_, rfl, ?_⟩
    rw [← hlen]
    by_cases h1 : fr.1 = fr.2
    · rw [if_pos (by simpa using h1)]; exact .inr (Nat.le_refl _)
    · rw [if_neg (by simpa using h1)]
      rcases e4 with e4 | e4
      · exact absurd e4 h1
      · exact .inr (by simp only; omega)
  have hfr : w.freeze ⟨b, vs.length, none⟩ 1 = setB w b (.cells vs.toArray t fr') := by
    unfold World.freeze setB
    simp only [Nat.one_ne_zero, if_false]
    obtain ⟨hlt, hh⟩ := Array.getElem?_eq_some_iff.1 hobj
    congr 1
    apply Array.ext (by simp)
    intro j h1 h2
    by_cases hj : j = b
    · subst hj; simp only [Array.getElem_modify, if_true, hh, Array.getElem_setIfInBounds_self]; rw [← hfr']
    · rw [Array.getElem_modify, if_neg (by simpa using Ne.symm hj), Array.getElem_setIfInBounds_ne (by simpa using h2) (Ne.symm hj)]
  have hrun : (convert s d (va x)).run P w = .ok (va x) (setB w b (.cells vs.toArray t fr')) := by
    subst hsd
    rw [hs] at hd'
    simp only [Option.some.injEq, TypeDesc.slice.injEq] at hd'
    subst hd'
    rw [hv]
    simp only [convert, Sem.run_bind, run_underlying hs, run_underlying he, Result.andThen_ok, beq_self_eq_true, markStringish, run_shape, hshape, run_freeze, hfr, Sem.run_pure]
  refine done_write hr hn e3 (v := va x) hx (.inr (by simp [execOp, h, hrun])) ⟨b, vs, t, fr', hb, e2, rfl, hun'⟩

theorem snd_cBin {op : BinOp} {t ty : TypeId} {x y : Operand} {so : SOp} (h : o.op = .binOp op t x y ty) (hc : cBin P op t x y = some so) : Sound P o so := by
  have two : ∀ {f : Bool → SOp}, cEq op f = some so → ∃ neg, so = f neg ∧ op = if neg then .neq else .eql := by
    intro f hf
    unfold cEq at hf
    split at hf
    · simp only [Option.some.injEq] at hf; exact ⟨false, hf.symm, rfl⟩
    · simp only [Option.some.injEq] at hf; exact ⟨true, hf.symm, rfl⟩
    · cases hf
  unfold cBin at hc
  split at hc
  · simp only [Option.some.injEq] at hc; subst hc; exact snd_ibin h
  · simp only [Option.some.injEq] at hc; subst hc; exact snd_sbin h
  · rename_i ht
    obtain ⟨neg, rfl, hop⟩ := two hc
    exact snd_eqB ht h hop
  · rename_i e ht
    obtain ⟨neg, rfl, hop⟩ := two hc
    exact snd_eqP ht h hop
  · rename_i e ht
    split at hc
    case h_2 => cases hc
    simp only [Option.some.injEq] at hc; subst hc
    exact snd_eqN ht h
  · rename_i fs ht
    split at hc
    · cases hc
    rename_i hg
    split at hc
    case h_2 => cases hc
    rename_i sh hsh
    obtain ⟨neg, rfl, hop⟩ := two hc
    exact snd_eqT ht (by simpa using hg) hsh h hop
  · cases hc

theorem snd_cConv {s d : TypeId} {x : Operand} {so : SOp} (h : o.op = .convert s d x) (hc : cConv P s d x = some so) : Sound P o so := by
  unfold cConv at hc
  split at hc
  · rename_i a b h1 h2
    simp only [Option.some.injEq] at hc; subst hc; exact snd_convI h1 h2 h
  · rename_i h1 h2
    simp only [Option.some.injEq] at hc; subst hc; exact snd_convSS h1 h2 h
  · rename_i e h1 h2
    split at hc
    case isFalse => cases hc
    rename_i hb
    simp only [Option.some.injEq] at hc; subst hc; exact snd_convBS h1 h2 (isByte_of hb) h
  · rename_i e h1 h2
    split at hc
    case isFalse => cases hc
    rename_i hb
    simp only [Option.some.injEq] at hc; subst hc; exact snd_convSB h1 h2 (isByte_of hb) h
  · rename_i e' e h1 h2
    split at hc
    case isFalse => cases hc
    rename_i hb
    simp only [Bool.and_eq_true, beq_iff_eq] at hb
    simp only [Option.some.injEq] at hc; subst hc; exact snd_markS h h1 h2 hb.1 (isByte_of hb.2)
  · cases hc

theorem snd_cMakeSlice {t : TypeId} {l c : Operand} {so : SOp} (h : o.op = .makeSlice t l c) (hc : cMakeSlice P t l c = some so) : Sound P o so := by
  unfold cMakeSlice at hc
  split at hc
  case h_2 => cases hc
  rename_i e h1
  split at hc
  case h_2 => cases hc
  rename_i i z h2 h3
  split at hc
  case isFalse => cases hc
  rename_i hcond
  simp only [Option.some.injEq] at hc; subst hc
  exact snd_mksl h h1 h2 h3 hcond.1 hcond.2

theorem snd_cSlice {t : TypeId} {x : Operand} {lo hi mx : Option Operand} {so : SOp} (h : o.op = .slice t x lo hi mx) (hc : cSlice P t x lo hi mx = some so) : Sound P o so := by
  unfold cSlice at hc
  split at hc
  · rename_i h1
    cases mx with
    | some m => simp at hc
    | none => simp only [Option.isSome_none, Bool.false_eq_true, if_false, Option.some.injEq] at hc; subst hc; exact snd_sliceS h1 h
  · rename_i e h1
    cases h2 : P.info? e with
    | none => rw [h2] at hc; cases hc
    | some i => rw [h2] at hc; simp only [Option.map_some, Option.some.injEq] at hc; subst hc; exact snd_sliceL h1 h2 h
  · rename_i n e h1
    split at hc
    case h_2 => cases hc
    rename_i i h2
    split at hc
    · cases hc
    rename_i hcond
    simp only [Option.some.injEq] at hc; subst hc
    cases mx with
    | some m => simp at hcond
    | none => exact snd_sliceA h1 h2 (by simp at hcond; omega) h
  · cases hc

theorem snd_cIndexAddr {t : TypeId} {x y : Operand} {so : SOp} (h : o.op = .indexAddr t x y) (hc : cIndexAddr P t x y = some so) : Sound P o so := by
  unfold cIndexAddr at hc
  split at hc
  · rename_i e h1
    cases h2 : P.info? e with
    | none => rw [h2] at hc; cases hc
    | some i => rw [h2] at hc; simp only [Option.map_some, Option.some.injEq] at hc; subst hc; exact snd_iaddrL h1 h2 h
  · rename_i n e h1
    cases h2 : P.info? e with
    | none => rw [h2] at hc; cases hc
    | some i => rw [h2] at hc; simp only [Option.map_some, Option.some.injEq] at hc; subst hc; exact snd_iaddrA h1 h2 h
  · cases hc

theorem snd_cIndex {t : TypeId} {x y : Operand} {so : SOp} (h : o.op = .index t x y) (hc : cIndex P t x y = some so) : Sound P o so := by
  unfold cIndex at hc
  split at hc
  · rename_i h1
    simp only [Option.some.injEq] at hc; subst hc; exact snd_idxS h1 h
  · rename_i n e h1
    split at hc
    case h_2 => cases hc
    rename_i d j h2 h3
    split at hc
    · rename_i hag
      simp only [Option.some.injEq] at hc; subst hc
      have := snd_idxA (o := o) h1 h2 h3 (fun hb => by rw [hag] at hb; cases hb) h
      rw [hag] at this; exact this
    · rename_i hag
      split at hc
      case isFalse => cases hc
      rename_i hj
      simp only [Option.some.injEq] at hc; subst hc
      have := snd_idxA (o := o) h1 h2 h3 (fun _ => hj) h
      rw [show isAggD d = false by simpa using hag, hj] at this; exact this
  · cases hc

theorem args2 {c : Call} {a b : Operand} (h : c.args.toList = [a, b]) : c.args = #[a, b] := by
  rw [← Array.toArray_toList (xs := c.args), h]
theorem args1 {c : Call} {a : Operand} (h : c.args.toList = [a]) : c.args = #[a] := by
  rw [← Array.toArray_toList (xs := c.args), h]
theorem type0 {c : Call} {t : TypeId} {r : List TypeId} (h : c.argTypes.toList = t :: r) : c.argTypes[0]? = some t := by
  rw [← Array.toArray_toList (xs := c.argTypes), h]; simp
theorem type1 {c : Call} {t u : TypeId} {r : List TypeId} (h : c.argTypes.toList = t :: u :: r) : c.argTypes[1]? = some u := by
  rw [← Array.toArray_toList (xs := c.argTypes), h]; simp

theorem snd_cap {c : Call} {t e : TypeId} {x : Operand} (h : o.op = .call c) (hc : c.callee = .builtin .cap) (hts : c.argTypes[0]? = some t) (has : c.args = #[x]) (hd0 : P.underlying t = some (.slice e)) : Sound P o (.cap x) := by
  intro ρ va hf w β res hp n rs r hd hrs hr hn hop ho
  have hx := hd x (by simp [SOp.operands])
  have hexec : ∀ v, (Builtin.cap_ c.argTypes o.type #[va x]).run P w = .ok v w → (execOp va o).run P w = .ok (.value v) w := by
    intro v hw
    simp only [execOp, h, resolve, hc, has, List.map_toArray, List.map_cons, List.map_nil, Sem.run_bind, Sem.run_pure, Result.andThen_ok, invoke, builtin, hw]
  have hrun : ∀ (a : Option Addr) (k m : Nat), (Builtin.cap_ c.argTypes o.type #[.slice a k m]).run P w = .ok (.int .i64 m) w := fun a k m => by
    simp [Builtin.cap_, hts, run_underlying hd0, goInt]
  simp only [opFn] at hop
  split at hop
  · rename_i i sz lo k m ex
    rw [ex] at hx
    simp only [Option.some.injEq] at hop; subst hop
    obtain ⟨_, _, _, _, _, _, _, hv, _⟩ := hx
    rw [hv] at hexec
    exact done_pure hr hn (hexec _ (hrun _ _ _)) ⟨by simp, trivial⟩
  · rename_i sz k m f ex
    rw [ex] at hx
    simp only [Option.some.injEq] at hop; subst hop
    obtain ⟨_, _, cap, hv, _, hm, _⟩ := hx
    rw [hv] at hexec
    have := hm m rfl
    subst this
    exact done_pure hr hn (hexec _ (hrun _ _ _)) ⟨rfl, trivial⟩
  · cases hop

theorem snd_mkch {t e : TypeId} {dir : ChanDir} {i : TypeInfo} {x : Operand} (h : o.op = .makeChan t x) (ht : P.underlying t = some (.chan dir e)) (hi : P.info? e = some i) : Sound P o (.mkch i.bytes x) := by
  intro ρ va hf w β res hp n rs r hd hrs hr hn hop ho
  have hx := hd x (by simp [SOp.operands])
  simp only [opFn] at hop
  split at hop
  case h_2 => cases hop
  rename_i k a ex
  rw [ex] at hx
  simp only [Option.some.injEq] at hop; subst hop
  obtain ⟨ho1, ho2, ho3⟩ := ho
  have hw : IntKind.i64.wrap a = a := inI64_wrap ⟨by omega, ho3⟩
  have e48 : (2 : Int) ^ 48 = 281474976710656 := by decide
  have hmul : (i.bytes : Int) * a ≤ 140737488355328 := by rw [Int.mul_comm]; exact ho2
  have hmax : IntKind.i64.max = 9223372036854775807 := by decide
  have hrun : (Instr.makeChan t (.int k a)).run P w = .ok (.chan (some w.heap.size)) (w.alloc (.chan a.toNat #[] false 0 0 false)) := by
    unfold Instr.makeChan
    have hbig : ¬ (a < 0 ∨ 9223372036854775807 < a ∨ 281474976710544 < (i.bytes : Int) * a) := by omega
    simp [run_underlying ht, asInt, asIntOf, typeInfo, hi, hbig]
  refine done_alloc hr hn (bd := ⟨some ⟨w.heap.size, 0, none⟩, 0⟩) (o := .chan a.toNat #[] false 0 0 false) (v := .chan (some w.heap.size)) ?_ ?_ ?_
  · simp [execOp, h, hx.1, hrun]
  · exact ⟨w.heap.size, 0, Env.up_same _ _ _, rfl⟩
  · exact ⟨w.heap.size, 0, 0, rfl, rfl⟩

theorem snd_negI {t : TypeId} {x : Operand} (h : o.op = .unOp .neg t x) : Sound P o (.negI x) := by
  intro ρ va hf w β res hp n rs r hd _ hr hn hop ho
  have hx := hd x (by simp [SOp.operands])
  simp only [opFn] at hop
  split at hop
  case h_2 => cases hop
  rename_i k a ex
  rw [ex] at hx
  simp only [Option.some.injEq] at hop; subst hop
  obtain ⟨d1, d2⟩ := icalc_run (β := β) k _ ho
  have hr2 : (icalc k (0 - a)) = ⟨(icalc k (0 - a)).obl, (icalc k (0 - a)).val, []⟩ := by rw [← d2]
  rw [hr2]
  refine done_pure hr hn (v := .int k (k.wrap (0 - a))) ?_ d1
  simp [execOp, h, hx.1, Op.unary, Op.intArith]

theorem snd_cCall {c : Call} {so : SOp} (h : o.op = .call c) (hc : cCall P c = some so) : Sound P o so := by
  unfold cCall at hc
  split at hc
  · rename_i f hcal
    simp only [Option.some.injEq] at hc; subst hc
    intro ρ va hf w β res hp n rs r _ _ _ _ hop
    simp [opFn] at hop
  · rename_i hcal
    unfold cAppend at hc
    split at hc
    case h_2 => cases hc
    rename_i t u s x e1 e2
    split at hc
    case h_2 => cases hc
    rename_i e d h1 h2
    split at hc
    case h_2 => cases hc
    rename_i i z h3 h4
    split at hc
    case isFalse =>
      split at hc
      case isFalse => cases hc
      rename_i hcond
      simp only [Option.some.injEq] at hc; subst hc
      have := hcond.2.2
      obtain ⟨k, rfl⟩ : ∃ k, d = .int k := by cases d <;> first | (simp [intD] at this; done) | exact ⟨_, rfl⟩
      exact snd_appz h hcal (type0 e1) (type1 e1) (args2 e2) h1 h2 h3 h4 hcond.1 hcond.2.1
    rename_i hcond
    simp only [Option.some.injEq] at hc; subst hc
    refine snd_append h hcal (type0 e1) (type1 e1) (args2 e2) h1 h2 ?_ h3 h4 hcond.1 hcond.2.1
    have := hcond.2.2
    cases d <;> first | (simp [srcD] at this; done) | exact .inl ⟨_, rfl⟩ | exact .inr rfl
  · rename_i hcal
    unfold cCopy at hc
    split at hc
    case h_2 => cases hc
    rename_i t r d s e1 e2
    split at hc
    case h_2 => cases hc
    rename_i e h1
    cases h2 : P.info? e with
    | none => rw [h2] at hc; cases hc
    | some i => rw [h2] at hc; simp only [Option.map_some, Option.some.injEq] at hc; subst hc; exact snd_copy h hcal (type0 e1) (args2 e2) h1 h2
  · rename_i hcal
    unfold cCap at hc
    split at hc
    case h_2 => cases hc
    rename_i t r x e1 e2
    split at hc
    case h_2 => cases hc
    rename_i e h1
    simp only [Option.some.injEq] at hc; subst hc
    exact snd_cap h hcal (type0 e1) (args1 e2) h1
  · rename_i hcal
    unfold cLen at hc
    split at hc
    case h_2 => cases hc
    rename_i t r x e1 e2
    split at hc
    case h_2 => cases hc
    rename_i d h1
    cases h2 : lenD d with
    | none => rw [h2] at hc; cases hc
    | some k => rw [h2] at hc; simp only [Option.map_some, Option.some.injEq] at hc; subst hc; exact snd_len h hcal (type0 e1) (args1 e2) h1 h2
  · rename_i hcal
    unfold cDelete at hc
    split at hc
    case h_2 => cases hc
    rename_i t r m k e1 e2
    split at hc
    case isFalse => cases hc
    rename_i hm
    simp only [Option.some.injEq] at hc; subst hc
    exact snd_mdel hm h hcal (type0 e1) (args2 e2)
  · rename_i hcal
    simp only [Option.some.injEq] at hc; subst hc
    exact snd_minmax (isMax := false) h (by simpa using hcal)
  · rename_i hcal
    simp only [Option.some.injEq] at hc; subst hc
    exact snd_minmax (isMax := true) h (by simpa using hcal)
  · cases hc

/-- ALL OPERATIONS. -/
theorem opSound {so : SOp} (hc : compileOp P o.op = some so) : Sound P o so := by
  cases h : o.op with
  | move x => rw [h] at hc; simp only [compileOp, Option.some.injEq] at hc; subst hc; exact snd_move (.inl h)
  | assign x => rw [h] at hc; simp only [compileOp, Option.some.injEq] at hc; subst hc; exact snd_move (.inr h)
  | pick c a b => rw [h] at hc; simp only [compileOp, Option.some.injEq] at hc; subst hc; exact snd_pick h
  | box t x => rw [h] at hc; simp only [compileOp, Option.some.injEq] at hc; subst hc; exact snd_box h
  | alloc t =>
    rw [h] at hc; simp only [compileOp, cAlloc] at hc
    cases hz : zeroOf P t with
    | none => rw [hz] at hc; cases hc
    | some z => rw [hz] at hc; simp only [Option.map_some, Option.some.injEq] at hc; subst hc; exact snd_alloc h hz
  | build t ps => rw [h] at hc; exact snd_build h hc
  | buildSlice t n ps => rw [h] at hc; exact snd_bslice h hc
  | load t a => rw [h] at hc; exact snd_cLoad h hc
  | store t a v =>
    rw [h] at hc; simp only [compileOp] at hc
    cases hi : P.info? t with
    | none => rw [hi] at hc; cases hc
    | some i => rw [hi] at hc; simp only [Option.map_some, Option.some.injEq] at hc; subst hc; exact snd_store h hi
  | nilCheck x => rw [h] at hc; simp only [compileOp, Option.some.injEq] at hc; subst hc; exact snd_nilck h
  | binOp op t x y ty => rw [h] at hc; exact snd_cBin h hc
  | unOp op t x =>
    rw [h] at hc; simp only [compileOp] at hc
    split at hc
    · simp only [Option.some.injEq] at hc; subst hc; exact snd_notB h
    · simp only [Option.some.injEq] at hc; subst hc; exact snd_negI h
    · cases hc
  | convert s d x => rw [h] at hc; exact snd_cConv h hc
  | makeFunc f a b => rw [h] at hc; simp only [compileOp, Option.some.injEq] at hc; subst hc; exact snd_mkfn h
  | makeMap t r =>
    rw [h] at hc; simp only [compileOp] at hc
    split at hc
    case isFalse => cases hc
    rename_i hcond
    simp only [Bool.and_eq_true, Option.isNone_iff_eq_none] at hcond
    simp only [Option.some.injEq] at hc; subst hc; exact snd_mkmap hcond.1 h
  | makeSlice t l c => rw [h] at hc; exact snd_cMakeSlice h hc
  | makeChan t s =>
    rw [h] at hc; simp only [compileOp, cMakeChan] at hc
    split at hc
    case h_2 => cases hc
    rename_i dir e ht
    cases hi : P.info? e with
    | none => rw [hi] at hc; cases hc
    | some i => rw [hi] at hc; simp only [Option.map_some, Option.some.injEq] at hc; subst hc; exact snd_mkch h ht hi
  | slice t x lo hi mx => rw [h] at hc; exact snd_cSlice h hc
  | fieldAddr s x f => rw [h] at hc; exact snd_faddr h hc
  | field s x f => rw [h] at hc; exact snd_fld h hc
  | indexAddr t x i => rw [h] at hc; exact snd_cIndexAddr h hc
  | index t x i => rw [h] at hc; exact snd_cIndex h hc
  | lookup t x i ok =>
    rw [h] at hc; simp only [compileOp] at hc
    split at hc
    case isFalse => cases hc
    rename_i hm
    simp only [Option.some.injEq] at hc; subst hc; exact snd_look hm h
  | mapEntry t m k =>
    rw [h] at hc; simp only [compileOp] at hc
    split at hc
    case isFalse => cases hc
    rename_i hm
    simp only [Option.some.injEq] at hc; subst hc; exact snd_mentry hm h
  | entryStore t m s v => rw [h] at hc; simp only [compileOp, Option.some.injEq] at hc; subst hc; exact snd_estore h
  | extract x i => rw [h] at hc; simp only [compileOp, Option.some.injEq] at hc; subst hc; exact snd_extract h
  | call c => rw [h] at hc; exact snd_cCall h hc
  | _ => rw [h] at hc; simp [compileOp] at hc

end
end Sx
