/- The executor's single operation is sound, the rest: numbers turned, interface values, functions, literals, rows, maps, slices, builtins, calls; nothing of the program stands here; conditions: tables that agree with the program's. -/
import Derived.Test.YtnafokinifbfhaaGreatDoorCxN
set_option linter.unusedVariables false
set_option linter.unusedSimpArgs false
namespace Go.Proofs.YtnafokinifbfhaaGreatDoor.Cx
open Go Go.RowKit
section
variable {P : Program} {X : Ctx} {n : Nat} {σ : AS} {d : Option Nat} {ty : TypeId} {ps : String} {af : Array Edge} {g : Option (Nat × Bool)} {T : Tr CV} {H : Tr CO} {nx : Nat}
variable {TB : Tabs} {tb : Tb} (hT : TbOk P TB tb)
theorem snd_un {op : UnOp} {tx : Nat} {x : Operand} : Snd P X n ⟨d, .unOp op tx x, ty, ps, af, g⟩ (stOf T H) nx (oUn op tx x tb T H nx) := by
  unfold oUn
  rw [yQ T H]
  unfold unX
  split
  · rename_i b hx
    split
    · rw [gL]; exact zU (xs := [x]) (by simp [Op.operands]) (s_not hx)
    · trivial
  · rename_i k a hx
    split
    · rw [fZ_eq]; exact zU (xs := [x]) (by simp [Op.operands]) (s_neg hx)
    · trivial
  · trivial
include hT
theorem snd_conv {src dst : Nat} {x : Operand} : Snd P X n ⟨d, .convert src dst x, ty, ps, af, g⟩ (stOf T H) nx (oConv src dst x tb T H nx) := by
  unfold oConv
  rw [yQ T H]
  cases h1 : tb.ik src with
  | none => trivial
  | some ks =>
    cases h2 : tb.ik dst with
    | none => trivial
    | some kd =>
      unfold convK
      simp only
      split
      · rename_i k z hx
        rw [fZ_eq]
        exact zU (xs := [x]) (by simp [Op.operands]) (s_conv_int hT.tabs (hT.ik _ _ h1) (hT.ik _ _ h2) hx)
      · trivial
theorem snd_mkif {t : Nat} {x : Operand} : Snd P X n ⟨d, .makeInterface t x, ty, ps, af, g⟩ (stOf T H) nx (oMkif t x tb T H nx) := by
  unfold oMkif
  split
  · rename_i u hu
    rw [yQ T H]
    exact zU (xs := [x]) (by simp [Op.operands]) (s_mkif (hT.ask _ _ hu))
  · trivial
theorem snd_tya {x : Operand} {xt a : Nat} {ok : Bool} : Snd P X n ⟨d, .typeAssert x xt a ok, ty, ps, af, g⟩ (stOf T H) nx (oTya x xt a ok tb T H nx) := by
  unfold oTya
  rw [yQ T H]
  refine yN fun hok => ?_
  subst hok
  unfold tyaX
  split
  · rename_i t y hx
    split
    · rename_i u hu
      cases hb : Nat.beq t a with
      | true =>
        simp only [cond_true]
        obtain rfl := Nat.eq_of_beq_eq_true hb
        exact zU (xs := [x]) (by simp [Op.operands]) (s_tya_hit (hT.ask _ _ hu) hx)
      | false =>
        simp only [cond_false]
        exact zU (xs := [x]) (by simp [Op.operands]) (s_tya_miss (hT.ask _ _ hu) hx hb)
    · trivial
  · trivial
omit hT in
theorem map_ev (xs : List Operand) : xs.map (fun o => eT o T) = xs.map (ev (stOf T H)) := List.map_congr_left fun x _ => yQ T H x
omit hT in
theorem map_evp (xs : List (Nat × Operand)) : xs.map (fun p => (p.1, eT p.2 T)) = xs.map (fun p => (p.1, ev (stOf T H) p.2)) := List.map_congr_left fun x _ => by rw [yQ T H]
omit hT in
theorem snd_mkf {f : Fn} {as1 bs : Array Operand} : Snd P X n ⟨d, .makeFunc f as1 bs, ty, ps, af, g⟩ (stOf T H) nx (oMkf f as1 bs tb T H nx) := by
  cases f with
  | func f =>
    show Snd P X n _ _ nx (evL as1.toList T fun as1 => evL bs.toList T fun bs => rv (.fn f as1 bs) nx)
    rw [tX, tX, map_ev (H := H), map_ev (H := H)]
    exact zU (xs := as1.toList ++ bs.toList) (by simp [Op.operands]) s_makeFunc
  | _ => trivial
theorem gI : ∀ {fs pl : List (Nat × Nat)}, iR tb fs = some pl → qw TB fs = some pl
  | [], pl, h => h
  | (off, ft) :: r, pl, h => by
    unfold iR at h
    unfold qw
    split at h
    · rename_i b m l h1 h2
      injection h with h
      subst h
      rw [hT.ty _ _ h1, gI h2]
    · cases h
theorem snd_build {t : Nat} {parts : Array (Nat × Operand)} : Snd P X n ⟨d, .build t parts, ty, ps, af, g⟩ (stOf T H) nx (oBuild t parts tb T H nx) := by
  have hops : ∀ x ∈ parts.toList.map (·.2), x ∈ (Op.build t parts).operands.toList := fun x hx => by simpa [Op.operands] using hx
  unfold oBuild
  split
  · rename_i zs hz
    rw [evP_eq, map_evp (H := H)]
    unfold buildX
    split
    · rename_i fs hf
      split
      · rename_i pl hp
        rw [fJ]
        by_cases hn : fillK pl nx (parts.toList.map fun p => (p.1, ev (stOf T H) p.2)) (zs.map .v) = .no
        · rw [hn]; trivial
        · obtain ⟨cs, h1, h2⟩ := s_build (P := P) (X := X) (n := n) (d := d) (ty := ty) (ps := ps) (af := af) (g := g) hT.tabs (hT.fld _ _ hf) (hT.zer _ _ hz) (gI hT hp) rfl hn
          rw [h1]
          exact zU hops h2
      · trivial
    · split
      · rename_i len e ha
        split
        · rename_i b sz hs
          rw [fJ]
          by_cases hn : fillK (kV sz len 0) nx (parts.toList.map fun p => (p.1, ev (stOf T H) p.2)) (zs.map .v) = .no
          · rw [hn]; trivial
          · obtain ⟨cs, h1, h2⟩ := xH (P := P) (X := X) (n := n) (d := d) (ty := ty) (ps := ps) (af := af) (g := g) hT.tabs (hT.arr _ _ _ ha) (hT.ty _ _ hs) (hT.zer _ _ hz) rfl hn
            rw [h1]
            exact zU hops h2
        · trivial
      · trivial
  · trivial
theorem elemZ_some {t : Nat} {q : Nat × Nat} (h : oBsl.elemZ tb (tb.sle t) = some q) : ∃ e b zs, lk TB.sle t = some e ∧ lk TB.ty e = some (b, q.2) ∧ lk TB.zer e = some zs ∧ zs.length = q.2 := by
  cases hs : tb.sle t with
  | none => rw [hs] at h; cases h
  | some e =>
    rw [hs] at h
    unfold oBsl.elemZ at h
    simp only at h
    split at h
    · rename_i b sz zs hz hzr
      cases hb : Nat.beq zs.length sz with
      | false => rw [hb] at h; cases h
      | true =>
        rw [hb] at h
        injection h with h
        subst h
        exact ⟨e, b, zs, hT.sle _ _ hs, hT.ty _ _ hz, hT.zer _ _ hzr, Nat.eq_of_beq_eq_true hb⟩
    · cases h
theorem snd_bsl {t len : Nat} {parts : Array (Nat × Operand)} : Snd P X n ⟨d, .buildSlice t len parts, ty, ps, af, g⟩ (stOf T H) nx (oBsl t len parts tb T H nx) := by
  have hops : ∀ x ∈ parts.toList.map (·.2), x ∈ (Op.buildSlice t len parts).operands.toList := fun x hx => by simpa [Op.operands] using hx
  unfold oBsl
  rw [evP_eq, map_evp (H := H)]
  cases hq : oBsl.elemZ tb (tb.sle t) with
  | none => trivial
  | some q =>
    obtain ⟨q0, sz⟩ := q
    obtain ⟨e, b, zs, h1, h2, h3, h4⟩ := elemZ_some hT hq
    refine yN fun hb => ?_
    simp only [Bool.and_eq_true] at hb
    have hlen : parts.size = len := by simpa using Nat.eq_of_beq_eq_true hb.1.1.1
    have hpos : 0 < sz := Nat.le_of_ble_eq_true hb.1.1.2
    have hl1 := Nat.le_of_ble_eq_true hb.1.2
    have hl2 := Nat.le_of_ble_eq_true hb.2
    have hmul : len * sz ≤ 1000 * 1000 := Nat.mul_le_mul hl1 hl2
    rcases pI (e := Res.no) (sz := sz) (parts.toList.map fun p => (p.1, ev (stOf T H) p.2)) 0 (fun cs => .val (.sl nx sz 0 len len true) [nx] [(nx, .row cs)] (nx + 1)) with h | ⟨h5, h6⟩
    · rw [h]; trivial
    · rw [h5]
      exact qB hops (fun hH => tO hT.tabs h1 h2 h3 h4 hpos hlen (by omega) hH h6)
theorem oG {t : Nat} {q : Nat × List Value} (h : mK tb (tb.sle t) = some q) : ∃ e b by_, lk TB.sle t = some e ∧ lk TB.ty e = some (b, q.1) ∧ lk TB.zer e = some q.2 ∧ lk TB.byt e = some by_ ∧ q.2.length = q.1 ∧ 0 < q.1 ∧ q.1 ≤ 1000 ∧ by_ ≤ 100000 := by
  cases hs : tb.sle t with
  | none => rw [hs] at h; cases h
  | some e =>
    rw [hs] at h
    unfold mK at h
    simp only at h
    split at h
    · rename_i b sz zs by_ hz hzr hby
      cases hb : (Nat.beq zs.length sz && Nat.blt 0 sz && Nat.ble sz 1000 && Nat.ble by_ 100000) with
      | false => rw [hb] at h; cases h
      | true =>
        rw [hb] at h
        injection h with h
        subst h
        simp only [Bool.and_eq_true] at hb
        exact ⟨e, b, by_, hT.sle _ _ hs, hT.ty _ _ hz, hT.zer _ _ hzr, hT.byt _ _ hby, Nat.eq_of_beq_eq_true hb.1.1.1, Nat.le_of_ble_eq_true hb.1.1.2, Nat.le_of_ble_eq_true hb.1.2, Nat.le_of_ble_eq_true hb.2⟩
    · cases h
theorem snd_mksl {t : Nat} {x y : Operand} : Snd P X n ⟨d, .makeSlice t x y, ty, ps, af, g⟩ (stOf T H) nx (oMksl t x y tb T H nx) := by
  unfold oMksl
  rw [yQ T H, yQ T H]
  cases hx : natV (ev (stOf T H) x) with
  | none => trivial
  | some l =>
    cases hy : natV (ev (stOf T H) y) with
    | none => trivial
    | some c =>
      obtain ⟨kx, hx⟩ := aB hx
      obtain ⟨ky, hy⟩ := aB hy
      cases hq : mK tb (tb.sle t) with
      | none => trivial
      | some q =>
        obtain ⟨sz, zs⟩ := q
        obtain ⟨e, b, by_, h1, h2, h3, h4, h5, h6, h7, h8⟩ := oG hT hq
        refine yN fun hb => ?_
        simp only [Bool.and_eq_true] at hb
        obtain rfl := Nat.eq_of_beq_eq_true hb.1
        have hl0 : 0 < l := Nat.le_of_ble_eq_true hb.2.1
        have hl1 := Nat.le_of_ble_eq_true hb.2.2.1
        have m1 : l * sz ≤ 1000 * 1000 := Nat.mul_le_mul hl1 h7
        have m2 : l * by_ ≤ 1000 * 100000 := Nat.mul_le_mul hl1 h8
        rw [fJ]
        exact qB (xs := [x, y]) (by simp [Op.operands]) (fun hH => wX hT.tabs h1 h2 h3 h4 h5 h6 hb.2.2.2 hx hy (by omega) (by omega) hl0 hH)
omit hT in
theorem snd_mkmap {t : Nat} {r : Option Operand} : Snd P X n ⟨d, .makeMap t r, ty, ps, af, g⟩ (stOf T H) nx (oMkmap t r tb T H nx) := by
  cases r with
  | none => exact qB (xs := []) (by simp) (fun hH => s_makeMap hH)
  | some r => trivial
theorem snd_mkch {t : Nat} {x : Operand} : Snd P X n ⟨d, .makeChan t x, ty, ps, af, g⟩ (stOf T H) nx (oMkch t x tb T H nx) := by
  unfold oMkch
  rw [yQ T H]
  cases hc : tb.ch t with
  | none => trivial
  | some by_ =>
    cases hx : natV (ev (stOf T H) x) with
    | none => trivial
    | some m =>
      obtain ⟨k, hx⟩ := aB hx
      obtain ⟨dir, e, i, z, h1, h2, h3, h4⟩ := hT.ch _ _ hc
      refine yN fun hb => ?_
      simp only [Bool.and_eq_true] at hb
      have hm := Nat.le_of_ble_eq_true hb.1
      have hb' := Nat.le_of_ble_eq_true hb.2
      exact qB (xs := [x]) (by simp [Op.operands]) (fun hH => s_makeChan h1 h2 hx hm (by omega) hH)
theorem wC {kt : Nat} {k : Value} (h : keyOk tb kt (.v k) = true) : ∃ kd, P.underlying kt = some kd ∧ MapKept.IsKey kd k := by
  unfold keyOk at h
  split at h
  · rename_i k1 z heq
    injection heq with heq
    subst heq
    split at h
    · rename_i k2 hk
      have := of_decide_eq_true h
      subst this
      exact ⟨_, nU hT.tabs (hT.ik _ _ hk), rfl⟩
    · cases h
  · rename_i s heq
    injection heq with heq
    subst heq
    cases hq : tb.isS kt with
    | none => rw [hq] at h; cases h
    | some u => exact ⟨_, hT.isS _ _ hq, trivial⟩
  · cases h
theorem snd_look {t : Nat} {m x : Operand} {ok : Bool} : Snd P X n ⟨d, .lookup t m x ok, ty, ps, af, g⟩ (stOf T H) nx (oLook t m x ok tb T H nx) := by
  unfold oLook
  rw [yQ T H, yQ T H]
  refine wF fun hok => ?_
  subst hok
  cases ht : tb.mp t with
  | none => trivial
  | some q =>
    obtain ⟨kt, et⟩ := q
    unfold lookT
    simp only
    split
    · rename_i z hz
      refine yN fun hk => ?_
      unfold lookM
      split
      · rename_i s key hm hx
        rw [hx] at hk
        obtain ⟨kd, k1, k2⟩ := wC hT hk
        split
        · rename_i es hH
          cases hr : kO key es 0 with
          | none => trivial
          | some r =>
            have hS := s_lookup (X := X) (n := n) (d := d) (ty := ty) (ps := ps) (af := af) (g := g) (hT.mp _ _ _ ht) k1 k2 (hT.mz _ _ hz) hm (show (stOf T H).H s = .map es from hH) hx hr
            cases r with
            | none => exact zU (xs := [m, x]) (by simp [Op.operands]) hS
            | some p => exact zU (xs := [m, x]) (by simp [Op.operands]) hS
        · trivial
      · trivial
    · trivial
theorem snd_upd {t : Nat} {m x y : Operand} : Snd P X n ⟨d, .mapUpdate t m x y, ty, ps, af, g⟩ (stOf T H) nx (oUpd t m x y tb T H nx) := by
  unfold oUpd
  rw [yQ T H, yQ T H, yQ T H]
  split
  · rename_i kt et ht
    refine yN fun hk => ?_
    unfold updM
    split
    · rename_i s key hm hx
      rw [hx] at hk
      obtain ⟨kd, k1, k2⟩ := wC hT hk
      split
      · rename_i es hH
        cases hr : kO key es 0 with
        | none => trivial
        | some r =>
          have hS := xE (X := X) (n := n) (d := d) (ty := ty) (ps := ps) (af := af) (g := g) (y := y) (hT.mp _ _ _ ht) k1 k2 hm (show (stOf T H).H s = .map es from hH) hx hr
          cases r with
          | none => unfold updE; simp only [fJ]; exact zU (xs := [m, x, y]) (by simp [Op.operands]) hS
          | some p => obtain ⟨i, old⟩ := p; unfold updE; simp only [fJ]; exact zU (xs := [m, x, y]) (by simp [Op.operands]) hS
      · trivial
    · trivial
  · trivial
omit hT in
theorem snd_ext {x : Operand} {i : Nat} : Snd P X n ⟨d, .extract x i, ty, ps, af, g⟩ (stOf T H) nx (oExt x i tb T H nx) := by
  unfold oExt
  rw [yQ T H]
  unfold extX
  split
  · rename_i xs hx
    split
    · rename_i y hy
      exact zU (xs := [x]) (by simp [Op.operands]) (s_extract hx hy)
    · trivial
  · trivial
theorem snd_slice {t : Nat} {x : Operand} {lo hi mx : Option Operand} : Snd P X n ⟨d, .slice t x lo hi mx, ty, ps, af, g⟩ (stOf T H) nx (oSlice t x lo hi mx tb T H nx) := by
  unfold oSlice
  split
  · rename_i lo
    rw [yQ T H, yQ T H]
    cases hl : natV (ev (stOf T H) lo) with
    | none => trivial
    | some l =>
      obtain ⟨k, hl⟩ := aB hl
      have hlo : lI (stOf T H) 0 (some lo) = some l := by
        unfold lI nV
        simp only [hl]
        rw [if_pos (by omega)]
        simp
      unfold slI
      simp only
      unfold slX
      split
      · rename_i s sz off len mc ex hx
        split
        · rename_i q0 sz' hq
          obtain ⟨e, b, h1, h2⟩ := dX hT hq
          refine yN fun hb => ?_
          obtain rfl := Nat.eq_of_beq_eq_true hb
          unfold slS
          refine yN fun hb2 => ?_
          simp only [Bool.and_eq_true] at hb2
          have hS := s_slice (X := X) (n := n) (d := d) (ty := ty) (ps := ps) (af := af) (g := g) (x := x) (lo := some lo) (hi := none) (mx := none) (l := l) (h := len) (m := none) hT.tabs h1 h2 hx hlo rfl rfl (by simp) (Nat.le_of_ble_eq_true hb2.1) (Nat.le_of_ble_eq_true hb2.2) (Nat.le_refl _)
          unfold slRes at hS
          simp only at hS
          cases hlt : Nat.blt l mc with
          | true =>
            have hlt' : l < mc := Nat.le_of_ble_eq_true hlt
            rw [if_pos hlt'] at hS
            simp only [cond_true, qF]
            exact zU (by simp [Op.operands]) hS
          | false =>
            have hlt' : ¬ l < mc := fun h => by
              have : Nat.blt l mc = true := Nat.ble_eq_true_of_le h
              rw [this] at hlt; cases hlt
            rw [if_neg hlt'] at hS
            simp only [cond_false]
            cases ex with
            | true => exact zU (by simp [Op.operands]) hS
            | false => exact zU (by simp [Op.operands]) hS
        · trivial
      · rename_i hx
        split
        · rename_i q hq
          obtain ⟨e, b, h1, h2⟩ := dX hT hq
          refine yN fun hb => ?_
          obtain rfl := Nat.eq_of_beq_eq_true hb
          exact zU (by simp [Op.operands]) (wZ (lo := some lo) (hi := none) (l := 0) (h := 0) hT.tabs h1 h2 hx hlo rfl)
        · trivial
      · trivial
  · trivial
omit hT in
theorem s_len_ch {t e : TypeId} {dir : ChanDir} {x : Operand} {s cap ns nr : Nat} {buf : List CV} (ht : P.underlying t = some (.chan dir e)) (hx : ev σ x = .ch s) (hH : σ.H s = .chan cap buf ns nr) :
    zb P X n ⟨d, .call ⟨.builtin .len, #[x], #[t]⟩, ty, ps, af, g⟩ (mkR σ [x] [s] d (.v (.int .i64 buf.length)) []) := by
  refine zW rfl fun M ρ τ a w hf hR => ?_
  have hHs := (zo hf (s := s) (by simp)).trans hH
  have h1 := hR.ev x
  rw [zP hf (by simp), hx] at h1
  have h0 := hR.ob s
  rw [hHs] at h0
  obtain ⟨g', us, e1, e2, e3, e4, e5⟩ := h0
  have hx' : a.eval x = .chan (some g') := by
    generalize a.eval x = q at h1
    cases h1 with
    | ch _ g1 hr => rw [e1] at hr; injection hr with hr; injection hr with hr _; rw [hr]
  refine ⟨goInt us.length, w, M, ρ, ?_, hR, by rw [e4]; exact .v _⟩
  have hget : (getObj g').run P w = .ok (.chan cap ⟨us⟩ false ns nr false) w := by simp [getObj, Sem.run, e2]
  unfold execOp
  simp [resolve, invoke, builtin, hx', Builtin.len_, run_underlying ht, hget]
omit hT in
theorem arr1 {α : Type} {xs : Array α} {x : α} (h : xs.toList = [x]) : xs = #[x] := by apply Array.toList_inj.1; rw [h]
omit hT in
theorem arr2 {α : Type} {xs : Array α} {x y : α} (h : xs.toList = [x, y]) : xs = #[x, y] := by apply Array.toList_inj.1; rw [h]
theorem snd_len {t : Nat} {x : Operand} : Snd P X n ⟨d, .call ⟨.builtin .len, #[x], #[t]⟩, ty, ps, af, g⟩ (stOf T H) nx (lenX tb H t nx (ev (stOf T H) x)) := by
  unfold lenX
  split
  · rename_i s sz off len mc ex hx
    split
    · rename_i e he
      exact zU (xs := [x]) (by simp [Op.operands, Call.operands]) (s_len hT.tabs (hT.sle _ _ he) hx)
    · trivial
  · rename_i s sz hx
    split
    · rename_i e he
      exact zU (xs := [x]) (by simp [Op.operands, Call.operands]) (s_len_se hT.tabs (hT.sle _ _ he) hx)
    · trivial
  · rename_i A m c hx
    split
    · rename_i e he
      exact zU (xs := [x]) (by simp [Op.operands, Call.operands]) (s_len_nil hT.tabs (hT.sle _ _ he) hx)
    · trivial
  · rename_i s hx
    split
    · rename_i u hu
      rw [qF]
      exact zU (xs := [x]) (by simp [Op.operands, Call.operands]) (s_len_s (hT.isS _ _ hu) hx)
    · trivial
  · rename_i s hx
    split
    · rename_i by_ cap buf ns nr hc hH
      obtain ⟨dir, e, i, z, h1, h2, h3, h4⟩ := hT.ch _ _ hc
      rw [qF]
      exact zU (xs := [x]) (by simp [Op.operands, Call.operands]) (s_len_ch h1 hx hH)
    · trivial
  · trivial
omit hT in
theorem snd_min {t t' : Nat} {x y : Operand} : Snd P X n ⟨d, .call ⟨.builtin .min, #[x, y], #[t, t']⟩, ty, ps, af, g⟩ (stOf T H) nx (minX nx (ev (stOf T H) x) (ev (stOf T H) y)) := by
  unfold minX
  split
  · rename_i k a k' b hx hy
    exact zU (xs := [x, y]) (by simp [Op.operands, Call.operands]) (s_min hx hy)
  · trivial
theorem snd_append {t : Nat} {x y : Operand} : Snd P X n ⟨d, .call ⟨.builtin .append, #[x, y], #[t, t]⟩, ty, ps, af, g⟩ (stOf T H) nx (appE H nx (ev (stOf T H) x) (ev (stOf T H) y) (mK tb (tb.sle t))) := by
  have hops : ∀ z ∈ [x, y], z ∈ (Op.call ⟨.builtin .append, #[x, y], #[t, t]⟩).operands.toList := by simp [Op.operands, Call.operands]
  cases hq : mK tb (tb.sle t) with
  | none => trivial
  | some q =>
    obtain ⟨sz, zs⟩ := q
    obtain ⟨e, b, by_, h1, h2, h3, h4, h5, h6, h7, h8⟩ := oG hT hq
    unfold appE newsK
    simp only
    split
    · rename_i sy sz' off len mc ex hy
      split
      · rename_i cs hHy
        refine yN fun hb => ?_
        simp only [Bool.and_eq_true] at hb
        obtain rfl := Nat.eq_of_beq_eq_true hb.1
        have hlen : 0 < len := Nat.le_of_ble_eq_true hb.2.1
        rcases dQ (cs := cs) (o := off) (m := Nat.mul len sz) (K := fun l => bif zn l then appX H nx sz (ev (stOf T H) x) len sy l else .no) (Nat.mul_pos hlen h6) with h | ⟨hle, h⟩
        · rw [h]; trivial
        · rw [h]
          refine yN fun _ => ?_
          have hle : off + len * sz ≤ cs.length := hle
          unfold appX
          split
          · rename_i sx sz2 offx lenx mcx exx hx
            split
            · rename_i cx hHx
              refine yN fun hb2 => ?_
              simp only [Bool.and_eq_true] at hb2
              obtain rfl := Nat.eq_of_beq_eq_true hb2.1
              obtain rfl := Nat.eq_of_beq_eq_true hb2.2.1
              have hl1 : lenx + len ≤ 100000 := Nat.le_of_ble_eq_true hb2.2.2.1
              have hof := Nat.le_of_ble_eq_true hb2.2.2.2
              have m2 : (lenx + len) * by_ ≤ 100000 * 100000 := Nat.mul_le_mul hl1 h8
              by_cases h0 : lenx = 0
              · subst h0
                have hz : Nat.mul 0 sz = 0 := Nat.zero_mul sz
                rw [hz, lP, fJ, qF]
                cases exx with
                | true =>
                  have hx0 : offx + 0 * sz ≤ cx.length := by omega
                  · have hS := fun hH => gQ (X := X) (n := n) (d := d) (ty := ty) (ps := ps) (af := af) (g := g) (s := nx) hT.tabs h1 h2 h3 h4 h5 h6 hx hHx hx0 hy hHy hle hlen (by omega) (by simp only [maxLen]; omega) hH
                    simp only [Nat.zero_mul, List.take_zero] at hS
                    exact qB hops hS
                | false =>
                  have hx0 : offx + 0 * sz ≤ cx.length := by omega
                  · have hS := fun hH => kQ (X := X) (n := n) (d := d) (ty := ty) (ps := ps) (af := af) (g := g) (s := nx) hT.tabs h1 h2 h3 h4 h5 h6 hx hHx hx0 hy hHy hle hlen (by omega) (by simp only [maxLen]; omega) hH
                    simp only [Nat.zero_mul, List.take_zero] at hS
                    exact qB hops hS
              · rcases dQ (cs := cx) (o := offx) (m := Nat.mul lenx sz) (K := fun old => fL (old ++ (cs.drop off).take (Nat.mul len sz)) fun cs => fN (Nat.add lenx len) fun m => bif exx then .val (.sl nx sz 0 m m false) [nx, sx, sy] [(nx, .row cs)] (nx + 1) else .val (.sl nx sz 0 m m false) [nx, sx, sy] [(sx, .dead), (nx, .row cs)] (nx + 1)) (Nat.mul_pos (by omega) h6) with h | ⟨hlex, h⟩
                · rw [h]; trivial
                · rw [h, fJ, qF]
                  cases exx with
                  | true => exact qB hops (fun hH => gQ hT.tabs h1 h2 h3 h4 h5 h6 hx hHx hlex hy hHy hle hlen (by omega) (by simp only [maxLen]; omega) hH)
                  | false => exact qB hops (fun hH => kQ hT.tabs h1 h2 h3 h4 h5 h6 hx hHx hlex hy hHy hle hlen (by omega) (by simp only [maxLen]; omega) hH)
            · trivial
          · rename_i hx
            refine yN fun hb2 => ?_
            have hl1 : len ≤ 100000 := Nat.le_of_ble_eq_true hb2
            have m2 : len * by_ ≤ 100000 * 100000 := Nat.mul_le_mul hl1 h8
            exact qB hops (fun hH => tR hT.tabs h1 h2 h3 h4 h5 h6 hx hy hHy hle hlen (by omega) (by simp only [maxLen]; omega) hH)
          · trivial
      · trivial
    · trivial
end
end Go.Proofs.YtnafokinifbfhaaGreatDoor.Cx
