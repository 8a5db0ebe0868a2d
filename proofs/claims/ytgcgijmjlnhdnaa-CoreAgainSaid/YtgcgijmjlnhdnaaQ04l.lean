/- What the plain laws are about. -/
import Derived.Test.YtgcgijmjlnhdnaaPx10
import Derived.Test.YtgcgijmjlnhdnaaPx19
