/- What the plain laws are about. -/
import Derived.Test.YtgcgijmjlnhdnaaPx22
import Derived.Test.YtgcgijmjlnhdnaaPx23
